/- Plans: how they lie in memory; contracts of the functions that look through a slice with a callback, and of those that check a task.
Contract: the error of a task alone.
Contract: the tasks on which a task depends, as bits.
Contract: a plan is checked: the plan, the index of a task, and the error.
Plain facts: the tasks on which a task depends are the least set that contains its predecessors and theirs. -/
import Derived.Test.YtlgioldmjohhlaaM2
import Derived.Test.YtlgioldmjohhlaaM1
import Derived.WalkSmall
import Derived.RangeFuncBox

section
namespace Go.Proofs.Ytlgioldmjohhlaa
open Go.RowKit

structure Task where
  machine : Int
  length : Int
  release : Int
  after : List Int

instance : Inhabited Task := ⟨⟨0, 0, 0, []⟩⟩

/-- A task at an address: four cells; its list below block B. -/
def TaskAt (B : Nat) (w : World) (b off : Nat) (t : Task) : Prop :=
  w.cell? ⟨b, off, none⟩ = some (.int .i64 t.machine) ∧ w.cell? ⟨b, off + 1, none⟩ = some (.int .i64 t.length) ∧ w.cell? ⟨b, off + 2, none⟩ = some (.int .i64 t.release) ∧
  ∃ A c, w.cell? ⟨b, off + 3, none⟩ = some (.slice A t.after.length c) ∧ IntsIn B w A t.after ∧ t.after.length ≤ c

/-- A slice of tasks. -/
def TasksIn (B : Nat) (w : World) (A : Option Addr) (ts : List Task) : Prop :=
  ts = [] ∨ ∃ b off, A = some ⟨b, off, none⟩ ∧ b < B ∧ ∀ i, i < ts.length → TaskAt B w b (off + i * 4) (ts.getD i default)

theorem TaskAt.keep {B : Nat} {w w' : World} {b off : Nat} {t : Task} (h : TaskAt B w b off t) (hb : b < B) (hk : ∀ b o, b < B → w'.cell? ⟨b, o, none⟩ = w.cell? ⟨b, o, none⟩) : TaskAt B w' b off t := by
  obtain ⟨h0, h1, h2, A, c, h3, h4, h5⟩ := h
  exact ⟨(hk _ _ hb).trans h0, (hk _ _ hb).trans h1, (hk _ _ hb).trans h2, A, c, (hk _ _ hb).trans h3, h4.keep hk, h5⟩
theorem TasksIn.keep {B : Nat} {w w' : World} {A : Option Addr} {ts : List Task} (h : TasksIn B w A ts) (hk : ∀ b o, b < B → w'.cell? ⟨b, o, none⟩ = w.cell? ⟨b, o, none⟩) : TasksIn B w' A ts := by
  rcases h with h | ⟨b, off, hA, hb, hc⟩
  · exact .inl h
  · exact .inr ⟨b, off, hA, hb, fun i hi => (hc i hi).keep hb hk⟩
theorem TasksIn.below {B : Nat} {w w' : World} {A : Option Addr} {ts : List Task} (h : TasksIn B w A ts) (hb : Below B w w') : TasksIn B w' A ts := h.keep (bcell hb).1
theorem TaskAt.more {B B' : Nat} {w : World} {b off : Nat} {t : Task} (h : TaskAt B w b off t) (hB : B ≤ B') : TaskAt B' w b off t := by
  obtain ⟨h0, h1, h2, A, c, h3, h4, h5⟩ := h
  exact ⟨h0, h1, h2, A, c, h3, h4.more hB, h5⟩
theorem TasksIn.more {B B' : Nat} {w : World} {A : Option Addr} {ts : List Task} (h : TasksIn B w A ts) (hB : B ≤ B') : TasksIn B' w A ts := by
  rcases h with h | ⟨b, off, hA, hb, hc⟩
  · exact .inl h
  · exact .inr ⟨b, off, hA, by omega, fun i hi => (hc i hi).more hB⟩
theorem TasksIn.at_ {B : Nat} {w : World} {A : Option Addr} {ts : List Task} {k : Nat} (h : TasksIn B w A ts) (hk : k < ts.length) : ∃ b off, A = some ⟨b, off, none⟩ ∧ b < B ∧ ∀ i, i < ts.length → TaskAt B w b (off + i * 4) (ts.getD i default) := by
  rcases h with h | h
  · subst h; simp at hk
  · exact h

/-- The first place from k on at which p holds, or -1. -/
def findFrom (p : Int → Bool) (xs : List Int) (k : Nat) : Int :=
  match (xs.drop k).findIdx? p with
  | some i => ((k + i : Nat) : Int)
  | none => -1
def anyB (p : Int → Bool) (xs : List Int) : Bool := xs.any p

theorem findFrom_step (p : Int → Bool) (xs : List Int) (k : Nat) (h : k < xs.length) : findFrom p xs k = if p (xs.getD k 0) = true then (k : Int) else findFrom p xs (k + 1) := by
  unfold findFrom
  rw [List.drop_eq_getElem_cons h, List.findIdx?_cons]
  have e : xs.getD k 0 = xs[k] := by simp [List.getD, h]
  rw [e]
  by_cases hx : p xs[k] = true
  · simp [hx]
  · simp only [hx]
    cases (List.drop (k + 1) xs).findIdx? p with
    | none => rfl
    | some i => simp; omega
theorem findFrom_end (p : Int → Bool) (xs : List Int) (k : Nat) (h : xs.length ≤ k) : findFrom p xs k = -1 := by
  unfold findFrom
  rw [List.drop_eq_nil_of_le h]
  rfl
theorem findFrom_any (p : Int → Bool) (xs : List Int) : decide (0 ≤ findFrom p xs 0) = anyB p xs := by
  unfold findFrom anyB
  simp only [List.drop_zero]
  cases h : xs.findIdx? p with
  | none =>
    have h2 := List.findIdx?_eq_none_iff.1 h
    have h3 : xs.any p = false := by rw [List.any_eq_false]; intro x hx; simp [h2 x hx]
    simp [h3]
  | some i =>
    obtain ⟨h1, h2, _⟩ := List.findIdx?_eq_some_iff_getElem.1 h
    have h3 : xs.any p = true := by rw [List.any_eq_true]; exact ⟨xs[i], List.getElem_mem h1, h2⟩
    simp [h3]

set_option maxHeartbeats 400000 in
theorem indexFunc_open (B : Nat) (A : Option Addr) (n c : Nat) (xs : List Int) (p : Int → Bool) (q : Value) (w : World) (hr : IntsIn B w A xs) (hn : xs.length = n) (hm : n ≤ 1000)
    (hcb : ∀ x, Calls Try.prog 142 #[.int .i64 x, q] w fun e w' => e = .returned (.bool (p x)) ∧ w = w') :
    Calls Try.prog 144 #[.slice A n c, .func (.func 142) #[] #[q]] w fun e w' => e = .returned (.int .i64 (findFrom p xs 0)) ∧ w = w' := by
  subst hn
  have HC := Lib.hid hcb
  clear hcb
  go_enter Try.func144, Try.ntmps144
  go_wp2
  go_loop [8] (fun i => ∃ k : Nat, k ≤ xs.length ∧ i = .int .i64 k ∧ findFrom p xs 0 = findFrom p xs k) (fun i => xs.length - (intOf i).toNat)
  case atStart => exact ⟨0, Nat.zero_le _, rfl, rfl⟩
  case round =>
    obtain ⟨k, hk, rfl, hf⟩ := hrel
    by_cases hlt : k < xs.length
    · obtain ⟨b, off, rfl, hb, hc⟩ := hr.at_ hlt
      have hcell := hc k hlt
      have HF := Lib.hid (hf.trans (findFrom_step p xs k hlt))
      clear hc hf hr
      generalize xs.getD k 0 = y at *
      cases hxy : p y
      · have HX := Lib.hid hxy
        go_wp2_with (go_at_call 142; refine (HC.out _).mono ?_; rintro e w' ⟨rfl, rfl⟩)
        go_round
        case rel => exact ⟨k + 1, by omega, by go_num, by rw [HF.out, HX.out]; simp⟩
        case measure => simp [intOf]; omega
      · have HX := Lib.hid hxy
        go_wp2_with (go_at_call 142; refine (HC.out _).mono ?_; rintro e w' ⟨rfl, rfl⟩)
        go_ret
        exact ⟨ret_int (by rw [HF.out, HX.out]; simp), rfl⟩
    · have HF := Lib.hid (show findFrom p xs 0 = -1 by rw [hf]; exact findFrom_end _ _ _ (by omega))
      clear hf
      go_wp2
      go_ret
      exact ⟨ret_int HF.out.symm, rfl⟩

theorem containsFunc_open (B : Nat) (A : Option Addr) (n c : Nat) (xs : List Int) (p : Int → Bool) (q : Value) (w : World) (hr : IntsIn B w A xs) (hn : xs.length = n) (hm : n ≤ 1000)
    (hcb : ∀ x, Calls Try.prog 142 #[.int .i64 x, q] w fun e w' => e = .returned (.bool (p x)) ∧ w = w') :
    Calls Try.prog 123 #[.slice A n c, .func (.func 142) #[] #[q]] w fun e w' => e = .returned (.bool (anyB p xs)) ∧ w = w' := by
  have H := Lib.hid (findFrom_any p xs)
  have HI := Lib.hid (indexFunc_open B A n c xs p q w hr hn hm hcb)
  clear hcb hr hn
  go_enter Try.func123, Try.ntmps123
  go_wp2_with (go_at_call 144; refine HI.out.mono ?_; rintro e w' ⟨rfl, rfl⟩)
  go_ret
  exact ⟨ret_bool H.out, rfl⟩

def geB (n : Nat) (x : Int) : Bool := decide ((n : Int) ≤ x)

theorem open1_any (x : Int) (b : Nat) (A : Option Addr) (n c : Nat) (w : World) (h : w.cell? ⟨b, 1, none⟩ = some (.slice A n c)) :
    Calls Try.prog 142 #[.int .i64 x, .pointer (some ⟨b, 0, none⟩)] w fun e w' => e = .returned (.bool (geB n x)) ∧ w = w' := by
  go_enter Try.func142, Try.ntmps142
  go_wp2
  go_ret
  exact ⟨ret_bool (by simp [geB]), rfl⟩

def afterErr (xs : List Int) (i : Nat) : Int := firstV [unlessV (withinB (xs.getD i 0) 0 6) 2, unlessV (decide (i = 0) || decide (xs.getD (i - 1) 0 < xs.getD i 0)) 9]
def taskE1 (t : Task) : Int := firstV [unlessV (withinB t.machine 0 3 && withinB t.length 1 10000 && withinB t.release 0 10000) 2, unlessV (decide ((t.after.length : Int) ≤ 7)) 8]
def taskE (t : Task) : Int := if taskE1 t ≠ 0 then taskE1 t else (scan (afterErr t.after) t.after.length 0).2

end Go.Proofs.Ytlgioldmjohhlaa
end

section
namespace Go.Proofs.Ytlgioldmjohhlaa
open Go.RowKit

theorem first2' (b c : Nat) (x y : Int) (w : World) (h0 : w.cell? ⟨b, 0, none⟩ = some (.int .i64 x)) (h1 : w.cell? ⟨b, 1, none⟩ = some (.int .i64 y)) (v : Int) (hv : firstV [x, y] = v) :
    Calls Try.prog 86 #[.slice (some ⟨b, 0, none⟩) 2 c] w fun e w' => e = .returned (.int .i64 v) ∧ w = w' := hv ▸ first2 b c x y w h0 h1

theorem afterErr_in {xs : List Int} {k : Nat} (h : afterErr xs k = 0) : 0 ≤ xs.getD k 0 ∧ xs.getD k 0 ≤ 6 := by
  have h1 := (unless_ne (by decide)).1 (firstV_zero.1 h).1
  simp only [withinB, Bool.and_eq_true, decide_eq_true_eq] at h1
  exact h1

set_option maxHeartbeats 1000000 in
set_option maxRecDepth 100000 in
theorem taskErr_any (B : Nat) (t : Task) (A : Option Addr) (n c : Nat) (w : World) (hn : t.after.length = n) (hr : IntsIn B w A t.after) (hB : B ≤ w.heap.size) (hm : n ≤ 1000) :
    Calls Try.prog 143 #[.agg #[.int .i64 t.machine, .int .i64 t.length, .int .i64 t.release, .slice A n c]] w fun e w' => e = .returned (.int .i64 (taskE t)) ∧ Below w.heap.size w w' := by
  obtain ⟨m, l, r, xs⟩ := t
  dsimp only at *
  have HT := Lib.hid (show taskE ⟨m, l, r, xs⟩ = if taskE1 ⟨m, l, r, xs⟩ ≠ 0 then taskE1 ⟨m, l, r, xs⟩ else (scan (afterErr xs) xs.length 0).2 from rfl)
  have h1 : firstV [unlessV (withinB m 0 3 && withinB l 1 10000 && withinB r 0 10000) 2, unlessV (decide ((n : Int) ≤ 7)) 8] = taskE1 ⟨m, l, r, xs⟩ := by rw [← hn]; rfl
  generalize taskE ⟨m, l, r, xs⟩ = E at *
  generalize taskE1 ⟨m, l, r, xs⟩ = E1 at *
  have hE : E1 = 0 ∨ (E1 == 0) = false := by
    by_cases h : E1 = 0
    · exact .inl h
    · exact .inr (by simpa using h)
  rcases hE with hE | hE
  · subst hE
    have hR := (unless_ne (by decide)).1 (firstV_zero.1 h1).1
    simp only [Bool.and_eq_true] at hR
    obtain ⟨⟨hm1, hl1⟩, hr1⟩ := hR
    have HV := Lib.hid (show firstV [unlessV true 2, unlessV (decide ((n : Int) ≤ 7)) 8] = 0 by rw [hm1, hl1, hr1] at h1; exact h1)
    have HN := Lib.hid hn
    have HR := Lib.hid hr
    clear hn hr h1
    go_enter Try.func143, Try.ntmps143
    go_wp2_with (go_at_call 88; refine (within_any _ _ _ _).mono ?_; rintro e w' ⟨rfl, rfl⟩)
    refine region_below 7 follows_mixed (by kernel_rfl) ?_
    intro C hC
    simp only [List.take_succ_cons, List.take_zero, List.drop_succ_cons, List.drop_zero]
    repeat (first
      | ((with_reducible refine quiet_plain rfl (fun K hK => ?_)); (focus (apply quiet_val; (focus (intro w' hw; obtain ⟨hcq, hfq⟩ := bcell ((hC.out _).1 hw); go_simp; (first | done | rfl | (with_reducible exact call_same hw (unless_any _ _ _))))); (simp only [Act.put, List.setIfInBounds_toArray, List.set_cons_succ, List.set_cons_zero]); (with_reducible refine hK _ ?_); clear hK K)))
      | ((with_reducible refine quiet_skip ?_ ?_); (focus (simp [Region.wanted, yielded]; done)); simp only [Act.put, List.setIfInBounds_toArray, List.set_cons_succ, List.set_cons_zero])
      | ((with_reducible refine quiet_go ?_ (fun K hK => ?_)); (focus (simp [Region.wanted, yielded]; done)); (focus (apply quiet_val; (focus (intro w' hw; obtain ⟨hcq, hfq⟩ := bcell ((hC.out _).1 hw); go_simp; (first | done | rfl | (with_reducible exact call_same hw (unless_any _ _ _))))); (simp only [Act.put, List.setIfInBounds_toArray, List.set_cons_succ, List.set_cons_zero]); (with_reducible refine hK _ ?_); clear hK K))))
    refine wpQuiet_nil ?_
    intro w1 hb1
    replace hb1 := (hC.out _).1 hb1
    clear hC C
    obtain ⟨hc1, hf1⟩ := bcell hb1
    have r0 : Blk w1 w.heap.size 101 #[.int .i64 m, .int .i64 l, .int .i64 r, .slice A n c] := (Blk.newAt rfl).past hb1
    have c3 := r0.cellAt 3 rfl
    have z0 := r0.lt
    go_wp2_with (go_at_call 86; refine (first2' _ _ _ _ _ (by first | (go_simp; done) | (go_simp; rfl)) (by first | (go_simp; done) | (go_simp; rfl)) _ HV.out).mono ?_; rintro e w' ⟨rfl, rfl⟩)
    have hb2 := pa (o := (Obj.cells #[.int .i64 (unlessV true 2), .int .i64 (unlessV (decide ((n : Int) ≤ 7)) 8)] 29)) (pt (pa (o := (Obj.cells #[.int .i64 m, .int .i64 l, .int .i64 r, .slice A n c] 101)) (Below.refl w.heap.size w)) hb1)
    have HTE := Lib.hid (show E = (scan (afterErr xs) xs.length 0).2 by rw [HT.out]; simp)
    clear HT HV
    go_loopw [36] (fun i wr => ∃ k : Nat, k ≤ n ∧ i = .int .i64 (k : Int) ∧ scan (afterErr xs) xs.length 0 = scan (afterErr xs) xs.length k ∧ Blk wr w.heap.size 101 #[.int .i64 m, .int .i64 l, .int .i64 r, .slice A n c] ∧ Below w.heap.size w wr) (fun i _ => n - (intOf i).toNat)
    case atStart => exact ⟨0, Nat.zero_le _, rfl, rfl, r0.alloc, hb2⟩
    case round =>
      obtain ⟨k, hk, rfl, hf, q0, hq⟩ := hrel
      clear r0 c3 z0 hb1 hb2 hc1 hf1
      have c3 := q0.cellAt 3 rfl
      have z0 := q0.lt
      by_cases hlt : k < n
      · obtain ⟨b, off, hA, hbB, hcell⟩ := (HR.out.below (hq.mono hB)).at_ (k := k) (by rw [HN.out]; exact hlt)
        subst hA
        have hbw := Nat.lt_of_lt_of_le hbB (Nat.le_trans hB hq.size)
        have d0 := hcell k (by rw [HN.out]; exact hlt)
        have HF := Lib.hid (hf.trans (scan_step (by rw [HN.out]; exact hlt)))
        have HE := Lib.hid (show afterErr xs k = firstV [unlessV (withinB (xs.getD k 0) 0 6) 2, unlessV (decide (k = 0) || decide (xs.getD (k - 1) 0 < xs.getD k 0)) 9] from rfl)
        have hF : afterErr xs k = 0 ∨ (afterErr xs k == 0) = false := by
          by_cases h : afterErr xs k = 0
          · exact .inl h
          · exact .inr (by simpa using h)
        have hmore := pa (o := (Obj.cells #[] 29)) hq
        clear hmore hf
        by_cases hk0 : k = 0
        · have hv : firstV [unlessV (withinB (xs.getD k 0) 0 6) 2, unlessV true 9] = afterErr xs k := by rw [HE.out, hk0]; rfl
          have hb : ((k : Int) == 0) = true := by simpa using hk0
          have HV := Lib.hid hv
          clear hv hk0 hcell
          generalize xs.getD k 0 = x at *
          rcases hF with hF | hF
          · have HG := Lib.hid (show scan (afterErr xs) xs.length 0 = scan (afterErr xs) xs.length (k + 1) by rw [HF.out, if_pos hF])
            have HV2 := Lib.hid (HV.out.trans hF)
            clear HV hF HE HF
            have HV := HV2
            clear HV2
            go_wp2_with (first | (go_at_call 88; refine (within_any _ _ _ _).mono ?_; rintro e w' ⟨rfl, rfl⟩) | (go_at_call 87; refine (unless_any _ _ _).mono ?_; rintro e w' ⟨rfl, rfl⟩) | (go_at_call 86; refine (first2' _ _ _ _ _ (by first | (go_simp; done) | (go_simp; rfl)) (by first | (go_simp; done) | (go_simp; rfl)) _ HV.out).mono ?_; rintro e w' ⟨rfl, rfl⟩))
            go_roundw
            case rel => exact ⟨k + 1, by omega, by go_num, HG.out, q0.alloc, pa hq⟩
            case measure => simp [intOf]; omega
          · have HG := Lib.hid (show scan (afterErr xs) xs.length 0 = (k, afterErr xs k) by rw [HF.out, if_neg (by simpa using hF)])
            clear HE HF
            generalize afterErr xs k = F at *
            go_wp2_with (first | (go_at_call 88; refine (within_any _ _ _ _).mono ?_; rintro e w' ⟨rfl, rfl⟩) | (go_at_call 87; refine (unless_any _ _ _).mono ?_; rintro e w' ⟨rfl, rfl⟩) | (go_at_call 86; refine (first2' _ _ _ _ _ (by first | (go_simp; done) | (go_simp; rfl)) (by first | (go_simp; done) | (go_simp; rfl)) _ HV.out).mono ?_; rintro e w' ⟨rfl, rfl⟩))
            go_ret
            exact ⟨ret_int (by rw [HTE.out, HG.out]), pa hq⟩
        · have d1 := hcell (k - 1) (by rw [HN.out]; omega)
          have hv : firstV [unlessV (withinB (xs.getD k 0) 0 6) 2, unlessV (decide (xs.getD (k - 1) 0 < xs.getD k 0)) 9] = afterErr xs k := by rw [HE.out, decide_eq_false hk0, Bool.false_or]
          have hb : ((k : Int) == 0) = false := by simpa using hk0
          have i0 : (0 : Int) ≤ (k : Int) - 1 := by omega
          have i1 : (1 : Int) ≤ (k : Int) := by omega
          have i2 : (k : Int) - 1 < (n : Int) := by omega
          have i3 : ((k : Int) - 1).toNat = k - 1 := by omega
          have HV := Lib.hid hv
          clear hv hk0 hcell
          generalize xs.getD k 0 = x at *
          generalize xs.getD (k - 1) 0 = y at *
          rcases hF with hF | hF
          · have HG := Lib.hid (show scan (afterErr xs) xs.length 0 = scan (afterErr xs) xs.length (k + 1) by rw [HF.out, if_pos hF])
            have HV2 := Lib.hid (HV.out.trans hF)
            clear HV hF HE HF
            have HV := HV2
            clear HV2
            go_wp2_with (first | (go_at_call 88; refine (within_any _ _ _ _).mono ?_; rintro e w' ⟨rfl, rfl⟩) | (go_at_call 87; refine (unless_any _ _ _).mono ?_; rintro e w' ⟨rfl, rfl⟩) | (go_at_call 86; refine (first2' _ _ _ _ _ (by first | (go_simp; done) | (go_simp; rfl)) (by first | (go_simp; done) | (go_simp; rfl)) _ HV.out).mono ?_; rintro e w' ⟨rfl, rfl⟩))
            go_roundw
            case rel => exact ⟨k + 1, by omega, by go_num, HG.out, q0.alloc, pa hq⟩
            case measure => simp [intOf]; omega
          · have HG := Lib.hid (show scan (afterErr xs) xs.length 0 = (k, afterErr xs k) by rw [HF.out, if_neg (by simpa using hF)])
            clear HE HF
            generalize afterErr xs k = F at *
            go_wp2_with (first | (go_at_call 88; refine (within_any _ _ _ _).mono ?_; rintro e w' ⟨rfl, rfl⟩) | (go_at_call 87; refine (unless_any _ _ _).mono ?_; rintro e w' ⟨rfl, rfl⟩) | (go_at_call 86; refine (first2' _ _ _ _ _ (by first | (go_simp; done) | (go_simp; rfl)) (by first | (go_simp; done) | (go_simp; rfl)) _ HV.out).mono ?_; rintro e w' ⟨rfl, rfl⟩))
            go_ret
            exact ⟨ret_int (by rw [HTE.out, HG.out]), pa hq⟩
      · have hkn : k = n := by omega
        have HF := Lib.hid (show scan (afterErr xs) xs.length 0 = (0, 0) by rw [hf]; exact scan_end (by rw [HN.out]; omega))
        clear hkn hf
        go_wp2
        go_ret
        exact ⟨ret_int (by rw [HTE.out, HF.out]), hq⟩
  · have hv : ∃ R : Bool, firstV [unlessV R 2, unlessV (decide ((n : Int) ≤ 7)) 8] = E1 ∧ ((withinB m 0 3 = false ∧ R = false) ∨ (withinB m 0 3 = true ∧ withinB l 1 10000 = false ∧ R = false) ∨ (withinB m 0 3 = true ∧ withinB l 1 10000 = true ∧ R = withinB r 0 10000)) := by
      refine ⟨_, h1, ?_⟩
      cases withinB m 0 3 <;> cases withinB l 1 10000 <;> simp
    have HT2 := Lib.hid (show E = E1 by rw [HT.out, if_pos (by simpa using hE)])
    clear HT h1 hn hr
    obtain ⟨R, hv, hR⟩ := hv
    have HV := Lib.hid hv
    clear hv
    rcases hR with ⟨hm1, rfl⟩ | ⟨hm1, hl1, rfl⟩ | ⟨hm1, hl1, rfl⟩
    all_goals
      go_enter Try.func143, Try.ntmps143
      go_wp2_with (go_at_call 88; refine (within_any _ _ _ _).mono ?_; rintro e w' ⟨rfl, rfl⟩)
      refine region_below 7 follows_mixed (by kernel_rfl) ?_
      intro C hC
      simp only [List.take_succ_cons, List.take_zero, List.drop_succ_cons, List.drop_zero]
      repeat (first
        | ((with_reducible refine quiet_plain rfl (fun K hK => ?_)); (focus (apply quiet_val; (focus (intro w' hw; obtain ⟨hcq, hfq⟩ := bcell ((hC.out _).1 hw); go_simp; (first | done | rfl | (with_reducible exact call_same hw (unless_any _ _ _))))); (simp only [Act.put, List.setIfInBounds_toArray, List.set_cons_succ, List.set_cons_zero]); (with_reducible refine hK _ ?_); clear hK K)))
        | ((with_reducible refine quiet_skip ?_ ?_); (focus (simp [Region.wanted, yielded]; done)); simp only [Act.put, List.setIfInBounds_toArray, List.set_cons_succ, List.set_cons_zero])
        | ((with_reducible refine quiet_go ?_ (fun K hK => ?_)); (focus (simp [Region.wanted, yielded]; done)); (focus (apply quiet_val; (focus (intro w' hw; obtain ⟨hcq, hfq⟩ := bcell ((hC.out _).1 hw); go_simp; (first | done | rfl | (with_reducible exact call_same hw (unless_any _ _ _))))); (simp only [Act.put, List.setIfInBounds_toArray, List.set_cons_succ, List.set_cons_zero]); (with_reducible refine hK _ ?_); clear hK K))))
      refine wpQuiet_nil ?_
      intro w1 hb1
      replace hb1 := (hC.out _).1 hb1
      clear hC C
      obtain ⟨hc1, hf1⟩ := bcell hb1
      go_wp2_with (go_at_call 86; refine (first2' _ _ _ _ _ (by first | (go_simp; done) | (go_simp; rfl)) (by first | (go_simp; done) | (go_simp; rfl)) _ HV.out).mono ?_; rintro e w' ⟨rfl, rfl⟩)
      go_ret
      exact ⟨ret_int HT2.out.symm, pa (pt (pa pr) hb1)⟩

end Go.Proofs.Ytlgioldmjohhlaa
end

section
namespace Go.Proofs.Ytlgioldmjohhlaa
open Go.RowKit

/-- The tasks of a list that are not known yet are put on the stack, and known. -/
def pushAll : Nat → List Nat → List Int → Nat × List Nat
  | known, stack, [] => (known, stack)
  | known, stack, x :: l => if known.testBit x.toNat then pushAll known stack l else pushAll (known ||| 2 ^ x.toNat) (stack ++ [x.toNat]) l
def needsRun (ts : List Task) : Nat → Nat → List Nat → Nat
  | 0, known, _ => known
  | f + 1, known, stack =>
    match stack.getLast? with
    | none => known
    | some i => needsRun ts f (pushAll known stack.dropLast (ts.getD i default).after).1 (pushAll known stack.dropLast (ts.getD i default).after).2
def needsV (ts : List Task) (i : Nat) : Nat := needsRun ts 1300 0 [i]

/-- All lists of tasks name tasks that exist; there are at most 7. -/
def PlanOk (ts : List Task) : Prop := ts.length ≤ 7 ∧ ∀ i, i < ts.length → (ts.getD i default).after.length ≤ 7 ∧ ∀ j, j < (ts.getD i default).after.length → 0 ≤ (ts.getD i default).after.getD j 0 ∧ (ts.getD i default).after.getD j 0 < ts.length

theorem own_pop {w : World} {base : Nat} {e : TypeId} {n c : Nat} {A : Option Addr} {ys : List Value} {y : Value} (h : w.ownsRow base e 1 (.slice A (n + 1) c) (n + 1) (ys ++ [y])) : w.ownsRow base e 1 (.slice A n c) n ys := by
  obtain ⟨h1, h2⟩ := h
  have hl : ys.length = n := by simp at h1; omega
  refine ⟨by omega, .inr ?_⟩
  rcases h2 with ⟨_, h2⟩ | ⟨g, cap, cur, hv, hb, hh, hn, hm, hs, ht⟩
  · omega
  · injection hv with hA _ hc
    subst hA hc
    refine ⟨g, c, cur, rfl, hb, hh, by omega, hm, hs, ?_⟩
    have h3 : (cur.toList.take ((n + 1) * 1)).take (n * 1) = (ys ++ [y]).take (n * 1) := by rw [ht]
    rw [List.take_take, show min (n * 1) ((n + 1) * 1) = n * 1 by omega] at h3
    rw [h3, Nat.mul_one, ← hl, List.take_left']
    rfl

theorem or_bit {K x : Nat} (hK : K < 128) (hx : x < 7) : K ||| 2 ^ x < 128 := Nat.or_lt_two_pow (n := 7) hK (Nat.pow_lt_pow_right (by decide) hx)
theorem or_gt {K x : Nat} (h : K.testBit x = false) : K < K ||| 2 ^ x := by
  have h1 : K ≤ K ||| 2 ^ x := Nat.left_le_or
  rcases Nat.lt_or_ge K (K ||| 2 ^ x) with h2 | h2
  · exact h2
  · exfalso
    have e : K ||| 2 ^ x = K := by omega
    have h3 : (K ||| 2 ^ x).testBit x = true := by simp
    rw [e, h] at h3
    cases h3

theorem pushAll_spec : ∀ (l : List Int) (K : Nat) (S : List Nat), K < 128 → (∀ x ∈ l, 0 ≤ x ∧ x < 7) →
    K ≤ (pushAll K S l).1 ∧ (pushAll K S l).1 < 128 ∧ (pushAll K S l).2.length ≤ S.length + l.length ∧ ((pushAll K S l).1 = K → (pushAll K S l).2.length = S.length) ∧ (∀ y ∈ (pushAll K S l).2, y ∈ S ∨ (y : Int) ∈ l)
  | [], K, S, hK, _ => ⟨Nat.le_refl _, hK, by simp [pushAll], fun _ => rfl, fun y hy => .inl hy⟩
  | x :: l, K, S, hK, hl => by
    have hx := hl x (List.mem_cons_self)
    have hl' : ∀ z ∈ l, 0 ≤ z ∧ z < 7 := fun z hz => hl z (List.mem_cons_of_mem _ hz)
    cases ht : K.testBit x.toNat with
    | true =>
      obtain ⟨h1, h2, h3, h4, h5⟩ := pushAll_spec l K S hK hl'
      simp only [pushAll, ht, if_true, List.length_cons]
      exact ⟨h1, h2, by omega, h4, fun y hy => (h5 y hy).imp id (List.mem_cons_of_mem _)⟩
    | false =>
      obtain ⟨h1, h2, h3, h4, h5⟩ := pushAll_spec l (K ||| 2 ^ x.toNat) (S ++ [x.toNat]) (or_bit hK (by omega)) hl'
      have hg := or_gt ht
      simp only [pushAll, ht, Bool.false_eq_true, if_false, List.length_cons]
      simp only [List.length_append, List.length_cons, List.length_nil] at h3
      refine ⟨by omega, h2, by omega, fun e => by omega, fun y hy => ?_⟩
      rcases h5 y hy with h | h
      · rcases List.mem_append.1 h with h | h
        · exact .inl h
        · have e : y = x.toNat := by simpa using h
          refine .inr ?_
          rw [e, show ((x.toNat : Nat) : Int) = x by omega]
          exact List.mem_cons_self
      · exact .inr (List.mem_cons_of_mem _ h)

def lenOf : Value → Nat
  | .slice _ n _ => n
  | _ => 0
def bitV (j : Nat) : Int := ((2 ^ j : Nat) : Int)
theorem wrap_bit {j : Nat} (hj : j < 62) : IntKind.i64.wrap (2 ^ j) = bitV j := by
  have h : 2 ^ j < 2 ^ 62 := Nat.pow_lt_pow_right (by decide) hj
  have e : ((2 : Int) ^ j) = ((2 ^ j : Nat) : Int) := by simp
  unfold bitV
  rw [e]
  have h2 : 2 ^ j < 4611686018427387904 := h
  generalize 2 ^ j = n at *
  exact IntWalk.i64_in _ (by omega)
theorem ofInt_i64 (a : Nat) (ha : a < 9223372036854775808) : (BitVec.ofInt 64 (a : Int)).toNat = a := by
  rw [BitVec.ofInt_natCast, BitVec.toNat_ofNat]; exact Nat.mod_eq_of_lt (by omega)
theorem bits_or {K j : Nat} (hK : K < 2 ^ 62) (hj : j < 62) : bits .or .i64 (K : Int) (bitV j) = ((K ||| 2 ^ j : Nat) : Int) := by
  have h : 2 ^ j < 2 ^ 62 := Nat.pow_lt_pow_right (by decide) hj
  have hx : K ||| 2 ^ j < 2 ^ 62 := Nat.or_lt_two_pow hK h
  show IntKind.i64.wrap ((BitVec.ofInt 64 (K : Int) ||| BitVec.ofInt 64 (bitV j)).toNat : Int) = _
  have h2 : 2 ^ j < 4611686018427387904 := h
  have hK2 : K < 4611686018427387904 := hK
  rw [BitVec.toNat_or, ofInt_i64 K (by omega), show bitV j = ((2 ^ j : Nat) : Int) from rfl, ofInt_i64 _ (by omega)]
  have hx2 : K ||| 2 ^ j < 4611686018427387904 := hx
  generalize K ||| 2 ^ j = n at *
  exact IntWalk.i64_in _ (by omega)
theorem bits_and {K j : Nat} (hK : K < 2 ^ 62) (hj : j < 62) : bits .and .i64 (K : Int) (bitV j) = ((K &&& 2 ^ j : Nat) : Int) := by
  have h : 2 ^ j < 2 ^ 62 := Nat.pow_lt_pow_right (by decide) hj
  have hx : K &&& 2 ^ j < 2 ^ 62 := Nat.and_lt_two_pow _ h
  show IntKind.i64.wrap ((BitVec.ofInt 64 (K : Int) &&& BitVec.ofInt 64 (bitV j)).toNat : Int) = _
  have h2 : 2 ^ j < 4611686018427387904 := h
  have hK2 : K < 4611686018427387904 := hK
  rw [BitVec.toNat_and, ofInt_i64 K (by omega), show bitV j = ((2 ^ j : Nat) : Int) from rfl, ofInt_i64 _ (by omega)]
  have hx2 : K &&& 2 ^ j < 4611686018427387904 := hx
  generalize K &&& 2 ^ j = n at *
  exact IntWalk.i64_in _ (by omega)
theorem and_two_pow' (K j : Nat) : K &&& 2 ^ j = if K.testBit j then 2 ^ j else 0 := by
  apply Nat.eq_of_testBit_eq
  intro k
  rw [Nat.testBit_and, Nat.testBit_two_pow]
  by_cases hjk : j = k
  · subst hjk
    cases h : K.testBit j <;> simp
  · cases h : K.testBit j <;> simp [hjk]
theorem bits_and_no {K j : Nat} (hK : K < 2 ^ 62) (hj : j < 62) (h : K.testBit j = false) : bits .and .i64 (K : Int) (bitV j) = 0 := by
  rw [bits_and hK hj, and_two_pow', h]; rfl
theorem bits_and_yes {K j : Nat} (hK : K < 2 ^ 62) (hj : j < 62) (h : K.testBit j = true) : bits .and .i64 (K : Int) (bitV j) = bitV j := by
  rw [bits_and hK hj, and_two_pow', h]; rfl
theorem bitV_ne (j : Nat) : (bitV j == 0) = false := by
  have : 0 < 2 ^ j := Nat.two_pow_pos j
  have : bitV j ≠ 0 := by unfold bitV; omega
  simpa using this

set_option maxHeartbeats 2000000 in
set_option maxRecDepth 100000 in
theorem needs_any (B : Nat) (ts : List Task) (A : Option Addr) (c : Nat) (m : Int) (i : Nat) (w : World) (hr : TasksIn B w A ts) (hB : B ≤ w.heap.size) (hi : i < ts.length) (hp : PlanOk ts) :
    Calls Try.prog 130 #[.agg #[.int .i64 m, .slice A ts.length c], .int .i64 (i : Int)] w fun e w' => e = .returned (.int .i64 (needsV ts i : Int)) ∧ Below w.heap.size w w' := by
  obtain ⟨i0, hi0, hz0, hz1, hz2⟩ := info_parts int_info
  have HR := Lib.hid hr
  have HP := Lib.hid hp
  have h7 := hp.1
  clear hr hp
  go_enter Try.func130, Try.ntmps130
  go_wp2
  go_loopw [5, 6] (fun kn nx wr => ∃ (K f : Nat) (S : List Nat) (A' : Option Addr) (c' : Nat), kn = .int .i64 (K : Int) ∧ nx = .slice A' S.length c' ∧ K < 128 ∧ (∀ x ∈ S, x < ts.length) ∧ needsRun ts f K S = needsV ts i ∧ (127 - K) * 10 + S.length ≤ f ∧ f ≤ 1300 ∧
      Blk wr w.heap.size 107 #[.int .i64 m, .slice A ts.length c] ∧ wr.ownsRow (w.heap.size + 1) 3 1 (.slice A' S.length c') S.length (S.map fun (x : Nat) => Value.int .i64 (x : Int)) ∧ Below w.heap.size w wr)
    (fun kn nx _ => (127 - (intOf kn).toNat) * 10 + lenOf nx)
  case atStart =>
    refine ⟨0, 1300, [i], some ⟨w.heap.size + 1, 0, none⟩, 1, rfl, rfl, by omega, by simpa using hi, rfl, by simp, Nat.le_refl _, (Blk.newAt rfl).alloc, ?_, pa (pa pr)⟩
    have := World.ownsRow_lit (e := 3) (size := 1) (base := w.heap.size + 1) (w.alloc (.cells #[.int .i64 m, .slice A ts.length c] 107)) #[.int .i64 (i : Int)] 1 (by simp) (by decide) rfl
    simpa using this
  case round =>
    obtain ⟨K, f, S, A', c', rfl, rfl, hK, hS, hrun, hf, hf2, q0, qo, hq⟩ := hrel
    rcases List.eq_nil_or_concat S with rfl | ⟨S0, x, rfl⟩
    · have hv : needsV ts i = K := by rw [← hrun]; cases f <;> rfl
      have HV := Lib.hid hv
      clear hv hrun
      simp only [List.length_nil] at *
      go_wp2
      go_ret
      exact ⟨ret_int (by rw [HV.out]), hq⟩
    · have hx : x < ts.length := hS x (by simp)
      have hS0 : ∀ y ∈ S0, y < ts.length := fun y hy => hS y (by simp [hy])
      simp only [List.concat_eq_append, List.length_append, List.length_cons, List.length_nil, Nat.zero_add, List.map_append, List.map_cons, List.map_nil] at hf qo ⊢
      obtain ⟨g, cap, hv⟩ := ownsRow_succ qo
      injection hv with hA' _ hcc
      subst hA' hcc
      have hlenr : S0.length ≤ c' := by
        rcases own_form qo with ⟨A2, c2, h1, h2, _⟩
        injection h1 with _ _ h3
        omega
      have hcx : wr.cell? ⟨g, S0.length, none⟩ = some (.int .i64 (x : Int)) := by
        rw [qo.cellAt S0.length (by omega)]
        simp
      have hrun2 : needsRun ts (f - 1) (pushAll K S0 (ts.getD x default).after).1 (pushAll K S0 (ts.getD x default).after).2 = needsV ts i := by
        rw [← hrun]
        obtain ⟨f', rfl⟩ : ∃ f', f = f' + 1 := ⟨f - 1, by omega⟩
        simp [needsRun]
      have hpop := own_pop qo
      obtain ⟨b, off, hA, hbB, hct⟩ := (HR.out.below (hq.mono hB)).at_ hx
      subst hA
      have hbw := Nat.lt_of_lt_of_le hbB (Nat.le_trans hB hq.size)
      obtain ⟨_, _, _, A3, c3, t3, t4, t5⟩ := hct x hx
      obtain ⟨haft1, haft2⟩ := HP.out.2 x hx
      generalize (ts.getD x default).after = aft at *
      have c1 := q0.cellAt 1 rfl
      have z0 := q0.lt
      have k0 : (0 : Int) ≤ (S0.length : Int) := by omega
      have k1 : (S0.length : Int) ≤ (c' : Int) := by omega
      have k2 : (0 : Int) ≤ (x : Int) := by omega
      have k3 : (x : Int) < (ts.length : Int) := by omega
      have HRun := Lib.hid hrun2
      have HS0 := Lib.hid hS0
      have HAft := Lib.hid haft2
      have HQ := Lib.hid qo
      have HPop := Lib.hid hpop
      have HT4 := Lib.hid t4
      clear hrun hrun2 hS hS0 haft2 qo hpop hct t4
      go_wp2
      obtain ⟨wo, rfl⟩ : ∃ wo : World, wo = wr := ⟨_, rfl⟩
      go_loopw [5, 6, 34] (fun kn nx ix wr2 => ∃ (j K2 : Nat) (S2 : List Nat) (A2 : Option Addr) (c2 : Nat), j ≤ aft.length ∧ ix = .int .i64 (j : Int) ∧ kn = .int .i64 (K2 : Int) ∧ nx = .slice A2 S2.length c2 ∧ pushAll K S0 aft = pushAll K2 S2 (aft.drop j) ∧ K2 < 128 ∧ S2.length ≤ S0.length + j ∧
          Blk wr2 w.heap.size 107 #[.int .i64 m, .slice (some ⟨b, off, none⟩) ts.length c] ∧ wr2.ownsRow (w.heap.size + 1) 3 1 (.slice A2 S2.length c2) S2.length (S2.map fun (x : Nat) => Value.int .i64 (x : Int)) ∧ Below w.heap.size wo wr2)
        (fun _ _ ix _ => aft.length - (intOf ix).toNat)
      case atStart => exact ⟨0, K, S0, _, c', Nat.zero_le _, rfl, rfl, rfl, rfl, hK, by omega, q0, HPop.out, Below.refl _ _⟩
      case round =>
        obtain ⟨j, K2, S2, A2, c2, hj, rfl, rfl, rfl, hpush, hK2, hS2, r0, ro, hq2⟩ := hrel
        have HPush := Lib.hid hpush
        clear hpush
        by_cases hlt : j < aft.length
        · obtain ⟨b3, off3, hA3, hb3, hc3⟩ := (HT4.out.below (hq2.mono hB)).at_ hlt
          subst hA3
          have hcell := hc3 j hlt
          have hbd := HAft.out j hlt
          have hdrop : aft.drop j = aft.getD j 0 :: aft.drop (j + 1) := by
            rw [List.drop_eq_getElem_cons hlt]
            simp [List.getD, hlt]
          generalize aft.getD j 0 = x2 at *
          obtain ⟨y, rfl⟩ : ∃ y : Nat, x2 = (y : Int) := ⟨x2.toNat, by omega⟩
          have hy7 : y < 7 := by omega
          have HDrop := Lib.hid hdrop
          clear hdrop hc3
          have e1 : IntKind.i64.wrap (2 ^ y) = bitV y := wrap_bit (by omega)
          have j0 : (0 : Int) ≤ (y : Int) := by omega
          have hne := bitV_ne y
          have hlen2 : S2.length ≤ 1400 := by omega
          cases ht : K2.testBit y with
          | true =>
            have e2 := bits_and_yes (K := K2) (j := y) (by omega) (by omega) ht
            have HG := Lib.hid (show pushAll K S0 aft = pushAll K2 S2 (aft.drop (j + 1)) by rw [HPush.out, HDrop.out]; simp [pushAll, ht])
            clear ht
            go_wp2
            go_roundw
            case rel => exact ⟨j + 1, K2, S2, A2, c2, by omega, by go_num, rfl, rfl, HG.out, hK2, by omega, r0, ro, hq2⟩
            case measure => simp [intOf]; omega
          | false =>
            have e2 := bits_and_no (K := K2) (j := y) (by omega) (by omega) ht
            obtain ⟨K3, hK3⟩ : ∃ K3, K3 = K2 ||| 2 ^ y := ⟨_, rfl⟩
            have e3 : bits .or .i64 (K2 : Int) (bitV y) = (K3 : Int) := by rw [hK3]; exact bits_or (by omega) (by omega)
            have hK3' : K3 < 128 := by rw [hK3]; exact or_bit hK2 hy7
            have HG := Lib.hid (show pushAll K S0 aft = pushAll K3 (S2 ++ [y]) (aft.drop (j + 1)) by rw [HPush.out, HDrop.out, hK3]; simp [pushAll, ht])
            clear ht hK3
            have HO := Lib.hid (ro.alloc (.cells #[.int .i64 (y : Int)] 3))
            have HC := Lib.hid (show CellsIn (wr.heap.size + 1) (wr.alloc (.cells #[.int .i64 (y : Int)] 3)) (some ⟨wr.heap.size, 0, none⟩) [.int .i64 (y : Int)] from .inr ⟨wr.heap.size, 0, rfl, by omega, fun q hq => by
              obtain rfl : q = 0 := by simp at hq; omega
              exact (Blk.new wr 3 #[.int .i64 (y : Int)]).cellAt 0 rfl⟩)
            have hsz : w.heap.size + 1 ≤ wr.heap.size := r0.lt
            go_wp2_with (at_builtin; go_must (refine wpList_append_cells _ rfl (.tmp 47) (.tmp 49) _ rfl (w.heap.size + 1) 3 i0 _ 1 8 Try.underlying28 hi0 hz0 hz1 hz2 rfl (by omega) _ S2.length _ rfl HO.out (wr.heap.size + 1) (some ⟨wr.heap.size, 0, none⟩) 1 1 _ rfl HC.out rfl (by simp [Value.oneCell']) (by simp only [maxLen]; omega) (by omega) (by simp; omega) ?_); intro v3 w3 hown3 hg3 hat3; obtain ⟨A3', c3', rfl, hc3', hm3⟩ := own_form hown3)
            go_roundw
            case rel => exact ⟨j + 1, K3, S2 ++ [y], A3', c3', by omega, by go_num, rfl, by simp, HG.out, hK3', by simp; omega, (r0.alloc).grown hg3 (by intro e; have := (ro.lt _ e.symm).1; omega), by simpa using hown3, (hq2.alloc (Nat.le_of_lt r0.lt) _).grown hg3 (by simp; omega) (fun k hk => by have := (ro.lt k hk).1; omega)⟩
            case measure => simp [intOf]; omega
        · have hje : j = aft.length := by omega
          have hres : pushAll K S0 aft = (K2, S2) := by rw [HPush.out, List.drop_eq_nil_of_le (by omega)]; rfl
          obtain ⟨p1, p2, p3, p4, p5⟩ := pushAll_spec aft K S0 hK (fun z hz => by
            obtain ⟨q, hq1, hq3⟩ := List.getElem_of_mem hz
            have := HAft.out q hq1
            rw [show aft.getD q 0 = z by simp [List.getD, hq1, hq3]] at this
            omega)
          rw [hres] at p1 p2 p3 p4 p5
          dsimp only at p1 p2 p3 p4 p5
          have hrunf : needsRun ts (f - 1) K2 S2 = needsV ts i := by rw [← HRun.out, hres]
          have hmem : ∀ z ∈ S2, z < ts.length := fun z hz => by
            rcases p5 z hz with h | h
            · exact HS0.out z h
            · obtain ⟨q, hq1, hq3⟩ := List.getElem_of_mem h
              have := HAft.out q hq1
              rw [show aft.getD q 0 = (z : Int) by simp [List.getD, hq1, hq3]] at this
              omega
          have hdec : (127 - K2) * 10 + S2.length < (127 - K) * 10 + (S0.length + 1) := by
            by_cases e : K2 = K
            · have := p4 e; rw [e]; omega
            · omega
          have HRunF := Lib.hid hrunf
          have HMem := Lib.hid hmem
          clear hje hres p1 p2 p3 p4 p5 hrunf hmem
          go_wp2
          go_roundw
          case rel => exact ⟨K2, f - 1, S2, A2, c2, rfl, rfl, hK2, HMem.out, HRunF.out, by omega, by omega, r0, ro, hq.trans hq2⟩
          case measure => simp only [intOf, lenOf, Int.toNat_natCast]; omega

end Go.Proofs.Ytlgioldmjohhlaa
end

section
namespace Go.Proofs.Ytlgioldmjohhlaa
open Go.RowKit

theorem getD_mem {α : Type} {l : List α} {j : Nat} {d : α} (h : j < l.length) : l.getD j d ∈ l := by
  have e : l.getD j d = l[j] := by simp [List.getD, h]
  rw [e]
  exact List.getElem_mem h

theorem getD_of {α : Type} {l : List α} {j : Nat} {d z : α} (h : j < l.length) (e : l[j] = z) : l.getD j d = z := by
  simp [List.getD, h, e]

theorem scan_zero {f : Nat → Int} {n : Nat} (h : (scan f n 0).2 = 0) : ∀ i, i < n → f i = 0 := by
  have H : ∀ (m k : Nat), (scanF f m k).2 = 0 → ∀ i, k ≤ i → i < k + m → f i = 0 := by
    intro m
    induction m with
    | zero => intro k _ i h1 h2; omega
    | succ m ih =>
      intro k hk i h1 h2
      rw [scanF] at hk
      by_cases h0 : f k = 0
      · rw [if_pos h0] at hk
        rcases Nat.lt_or_ge k i with h3 | h3
        · exact ih (k + 1) hk i h3 (by omega)
        · obtain rfl : k = i := by omega
          exact h0
      · rw [if_neg h0] at hk
        exact absurd hk h0
  intro i hi
  exact H (n - 0) 0 h i (Nat.zero_le _) (by omega)

def openE0 (m : Int) (n : Nat) : Int := firstV [unlessV (withinB m 1 4) 2, unlessV (decide ((n : Int) ≤ 7)) 8]
def openE1 (m : Int) (ts : List Task) (i : Nat) : Int := firstV [taskE (ts.getD i default), unlessV (decide ((ts.getD i default).machine < m) && !anyB (geB ts.length) (ts.getD i default).after) 6]
def openE2 (ts : List Task) (i : Nat) : Int := if (needsV ts i).testBit i then 13 else 0
def openV (m : Int) (ts : List Task) : Nat × Int :=
  if openE0 m ts.length ≠ 0 then (0, openE0 m ts.length)
  else if (scan (openE1 m ts) ts.length 0).2 ≠ 0 then scan (openE1 m ts) ts.length 0
  else scan (openE2 ts) ts.length 0

theorem taskE_zero {t : Task} (h : taskE t = 0) : t.after.length ≤ 7 ∧ ∀ j, j < t.after.length → 0 ≤ t.after.getD j 0 ∧ t.after.getD j 0 ≤ 6 := by
  unfold taskE at h
  by_cases h1 : taskE1 t = 0
  · rw [if_neg (by simpa using h1)] at h
    have h2 := (firstV_zero.1 (firstV_zero.1 h1).2).1
    have h3 := (unless_ne (by decide)).1 h2
    refine ⟨by have := of_decide_eq_true h3; omega, fun j hj => afterErr_in (scan_zero h j hj)⟩
  · rw [if_pos h1] at h
    exact absurd h h1

theorem planOk_of {m : Int} {ts : List Task} (h0 : openE0 m ts.length = 0) (h1 : (scan (openE1 m ts) ts.length 0).2 = 0) : PlanOk ts := by
  have h2 := (unless_ne (by decide)).1 (firstV_zero.1 (firstV_zero.1 h0).2).1
  refine ⟨by have := of_decide_eq_true h2; omega, fun i hi => ?_⟩
  have h3 := scan_zero h1 i hi
  obtain ⟨h4, h5⟩ := firstV_zero.1 h3
  have h6 := (unless_ne (by decide)).1 (firstV_zero.1 h5).1
  simp only [Bool.and_eq_true, Bool.not_eq_true'] at h6
  obtain ⟨h7, h8⟩ := taskE_zero h4
  refine ⟨h7, fun j hj => ⟨(h8 j hj).1, ?_⟩⟩
  have h9 := h6.2
  unfold anyB at h9
  rw [List.any_eq_false] at h9
  have h10 := h9 ((ts.getD i default).after.getD j 0) (getD_mem hj)
  simp only [geB, decide_eq_true_eq] at h10
  omega

theorem after_in {ts : List Task} (h : PlanOk ts) {i : Nat} (hi : i < ts.length) : ∀ z ∈ (ts.getD i default).after, 0 ≤ z ∧ z < ts.length := by
  intro z hz
  obtain ⟨q, hq1, hq3⟩ := List.getElem_of_mem hz
  have := (h.2 i hi).2 q hq1
  rwa [show (ts.getD i default).after.getD q 0 = z from getD_of hq1 hq3] at this

theorem needsRun_lt {ts : List Task} (h : PlanOk ts) : ∀ (f K : Nat) (S : List Nat), K < 128 → (∀ x ∈ S, x < ts.length) → needsRun ts f K S < 128
  | 0, K, S, hK, _ => hK
  | f + 1, K, S, hK, hS => by
    rcases List.eq_nil_or_concat S with rfl | ⟨S0, x, rfl⟩
    · exact hK
    · have hx : x < ts.length := hS x (by simp)
      have h7 := h.1
      have ha := after_in h hx
      obtain ⟨p1, p2, p3, p4, p5⟩ := pushAll_spec (ts.getD x default).after K S0 hK (fun z hz => by have := ha z hz; omega)
      simp only [needsRun, List.concat_eq_append, List.getLast?_concat, List.dropLast_concat]
      refine needsRun_lt h f _ _ p2 (fun z hz => ?_)
      rcases p5 z hz with h' | h'
      · exact hS z (by simp [h'])
      · have := ha _ h'; omega
theorem needsV_lt {ts : List Task} (h : PlanOk ts) {i : Nat} (hi : i < ts.length) : needsV ts i < 128 := needsRun_lt h _ _ _ (by decide) (by simpa using hi)

def SmallPlan (ts : List Task) : Prop := ts.length ≤ 1000 ∧ ∀ i, i < ts.length → (ts.getD i default).after.length ≤ 1000

set_option maxHeartbeats 2000000 in
set_option maxRecDepth 100000 in
theorem open_any (B : Nat) (ts : List Task) (A : Option Addr) (c : Nat) (m : Int) (w : World) (hr : TasksIn B w A ts) (hB : B ≤ w.heap.size) (hs : SmallPlan ts) :
    Calls Try.prog 115 #[.agg #[.int .i64 m, .slice A ts.length c]] w fun e w' =>
      e = .returned (.tuple #[.agg #[.int .i64 m, .slice A ts.length c], .int .i64 ((openV m ts).1 : Int), .int .i64 (openV m ts).2]) ∧ Below w.heap.size w w' := by
  have hn1000 := hs.1
  have HR := Lib.hid hr
  have HS := Lib.hid hs
  have HV := Lib.hid (show openV m ts = if openE0 m ts.length ≠ 0 then (0, openE0 m ts.length) else if (scan (openE1 m ts) ts.length 0).2 ≠ 0 then scan (openE1 m ts) ts.length 0 else scan (openE2 ts) ts.length 0 from rfl)
  have HPL := Lib.hid (@planOk_of m ts)
  have HE0 := Lib.hid (show firstV [unlessV (withinB m 1 4) 2, unlessV (decide ((ts.length : Int) ≤ 7)) 8] = openE0 m ts.length from rfl)
  generalize openV m ts = V at *
  clear hr hs
  have hE : openE0 m ts.length = 0 ∨ (openE0 m ts.length == 0) = false := by
    by_cases h : openE0 m ts.length = 0
    · exact .inl h
    · exact .inr (by simpa using h)
  generalize openE0 m ts.length = E0 at *
  rcases hE with hE | hE
  · have HE0z := Lib.hid hE
    have HE02 := Lib.hid (HE0.out.trans hE)
    have HV2 := Lib.hid (show V = if (scan (openE1 m ts) ts.length 0).2 ≠ 0 then scan (openE1 m ts) ts.length 0 else scan (openE2 ts) ts.length 0 by rw [HV.out, if_neg (by simpa using hE)])
    clear hE HV
    go_enter Try.func115, Try.ntmps115
    go_wp2
    refine region_below 9 follows_mixed (by kernel_rfl) ?_
    intro C hC
    simp only [List.take_succ_cons, List.take_zero, List.drop_succ_cons, List.drop_zero]
    repeat (first
      | ((with_reducible refine quiet_plain rfl (fun K hK => ?_)); (focus (apply quiet_val; (focus (intro w' hw; obtain ⟨hcq, hfq⟩ := bcell ((hC.out _).1 hw); go_simp; (first | done | rfl | (with_reducible exact call_same hw (within_any _ _ _ _)) | (with_reducible exact call_same hw (unless_any _ _ _))))); (simp only [Act.put, List.setIfInBounds_toArray, List.set_cons_succ, List.set_cons_zero]); (with_reducible refine hK _ ?_); clear hK K)))
      | ((with_reducible refine quiet_skip ?_ ?_); (focus (simp [Region.wanted, yielded]; done)); simp only [Act.put, List.setIfInBounds_toArray, List.set_cons_succ, List.set_cons_zero])
      | ((with_reducible refine quiet_go ?_ (fun K hK => ?_)); (focus (simp [Region.wanted, yielded]; done)); (focus (apply quiet_val; (focus (intro w' hw; obtain ⟨hcq, hfq⟩ := bcell ((hC.out _).1 hw); go_simp; (first | done | rfl | (with_reducible exact call_same hw (within_any _ _ _ _)) | (with_reducible exact call_same hw (unless_any _ _ _))))); (simp only [Act.put, List.setIfInBounds_toArray, List.set_cons_succ, List.set_cons_zero]); (with_reducible refine hK _ ?_); clear hK K))))
    refine wpQuiet_nil ?_
    intro w1 hb1
    replace hb1 := (hC.out _).1 hb1
    clear hC C
    obtain ⟨hc1, hf1⟩ := bcell hb1
    have r0 : Blk w1 w.heap.size 24 #[.int .i64 m, .slice A ts.length c] := (((Blk.newAt rfl).alloc).alloc).past hb1
    have r1 : Blk w1 (w.heap.size + 1) 107 #[.int .i64 0, .slice none 0 0] := ((Blk.newAt (by simp)).alloc).past hb1
    have r2 : Blk w1 (w.heap.size + 1 + 1) 107 #[.int .i64 m, .slice A ts.length c] := (Blk.newAt (by simp)).past hb1
    have hq := pt (pa (pa (pa (Below.refl w.heap.size w)))) hb1
    have c1 := r0.cellAt 1 rfl
    have z0 := r0.lt
    go_wp2_with (go_at_call 86; refine (first2' _ _ _ _ _ (by first | (go_simp; done) | (go_simp; rfl)) (by first | (go_simp; done) | (go_simp; rfl)) _ HE02.out).mono ?_; rintro e w' ⟨rfl, rfl⟩)
    have HPL2 := Lib.hid (HPL.out HE0z.out)
    go_loopw [32] (fun i wr => ∃ k : Nat, k ≤ ts.length ∧ i = .int .i64 (k : Int) ∧ scan (openE1 m ts) ts.length 0 = scan (openE1 m ts) ts.length k ∧ Blk wr w.heap.size 24 #[.int .i64 m, .slice A ts.length c] ∧ Blk wr (w.heap.size + 1) 107 #[.int .i64 0, .slice none 0 0] ∧ Blk wr (w.heap.size + 1 + 1) 107 #[.int .i64 m, .slice A ts.length c] ∧ Below w.heap.size w wr) (fun i _ => ts.length - (intOf i).toNat)
    case atStart => exact ⟨0, Nat.zero_le _, rfl, rfl, r0.alloc, r1.alloc, r2.alloc, pa hq⟩
    case round =>
      obtain ⟨k, hk, rfl, hf, q0, q1, q2, hq2⟩ := hrel
      clear r0 r1 r2 hq c1 z0 hb1 hc1 hf1
      have d0 := q0.cellAt 0 rfl
      have d1 := q0.cellAt 1 rfl
      have y0 := q0.lt
      by_cases hlt : k < ts.length
      · obtain ⟨b, off, hA, hbB, hct⟩ := (HR.out.below (hq2.mono hB)).at_ hlt
        subst hA
        have hbw := Nat.lt_of_lt_of_le hbB (Nat.le_trans hB hq2.size)
        obtain ⟨t0, t1, t2, A3, c3, t3, t4, t5⟩ := hct k hlt
        have hm3 := HS.out.2 k hlt
        have HF := Lib.hid (hf.trans (scan_step hlt))
        have hv1 : firstV [taskE (ts.getD k default), unlessV (decide ((ts.getD k default).machine < m) && !anyB (geB ts.length) (ts.getD k default).after) 6] = openE1 m ts k := rfl
        generalize ts.getD k default = t at *
        have HT4 := Lib.hid t4
        have hcf := containsFunc_open B A3 t.after.length c3 t.after (geB ts.length) (.pointer (some ⟨w.heap.size, 0, none⟩)) (wr.alloc (.cells #[.int .i64 t.machine, .int .i64 t.length, .int .i64 t.release, .slice A3 t.after.length c3] 101)) (t4.below ((pa (Below.refl _ wr)).mono (Nat.le_trans hB hq2.size))) rfl hm3 (fun x => open1_any x w.heap.size _ ts.length c _ ((q0.alloc).cellAt 1 rfl))
        have HCF := Lib.hid hcf
        clear hct hf t4 hcf
        have HTa := Lib.hid (show IntsIn B (wr.alloc (.cells #[.int .i64 t.machine, .int .i64 t.length, .int .i64 t.release, .slice A3 t.after.length c3] 101)) A3 t.after from HT4.out.below ((pa (Below.refl _ wr)).mono (Nat.le_trans hB hq2.size)))
        have hBa : B ≤ (wr.alloc (.cells #[.int .i64 t.machine, .int .i64 t.length, .int .i64 t.release, .slice A3 t.after.length c3] 101)).heap.size := Nat.le_trans hB (pa hq2).size
        have hcases : ∃ R : Bool, firstV [taskE t, unlessV R 6] = openE1 m ts k ∧ ((decide (t.machine < m) = true ∧ R = !anyB (geB ts.length) t.after) ∨ (decide (t.machine < m) = false ∧ R = false)) := by
          refine ⟨_, hv1, ?_⟩
          cases decide (t.machine < m) <;> simp
        obtain ⟨R, hv1, hR⟩ := hcases
        have hF : openE1 m ts k = 0 ∨ (openE1 m ts k == 0) = false := by
          by_cases h : openE1 m ts k = 0
          · exact .inl h
          · exact .inr (by simpa using h)
        rcases hF with hF | hF
        · have HG := Lib.hid (show scan (openE1 m ts) ts.length 0 = scan (openE1 m ts) ts.length (k + 1) by rw [HF.out, if_pos hF])
          have HV1 := Lib.hid (hv1.trans hF)
          clear hv1 hF HF
          rcases hR with ⟨hR, rfl⟩ | ⟨hR, rfl⟩
          all_goals
            go_wp2_with (go_at_call 123; refine HCF.out.mono ?_; rintro e w' ⟨rfl, rfl⟩)
            refine region_below 12 follows_mixed (by kernel_rfl) ?_
            intro C hC
            simp only [List.take_succ_cons, List.take_zero, List.drop_succ_cons, List.drop_zero]
            repeat (first
              | ((with_reducible refine quiet_plain rfl (fun K hK => ?_)); (focus (apply quiet_val; (focus (intro w' hw; obtain ⟨hcq, hfq⟩ := bcell ((hC.out _).1 hw); go_simp; (first | done | rfl | (with_reducible exact call_below hC hw (taskErr_any B t A3 t.after.length c3 _ rfl (HTa.out.below (((hC.out _).1 hw).mono hBa)) (Nat.le_trans hBa ((hC.out _).1 hw).size) hm3)) | (with_reducible exact call_same hw (unless_any _ _ _))))); (simp only [Act.put, List.setIfInBounds_toArray, List.set_cons_succ, List.set_cons_zero]); (with_reducible refine hK _ ?_); clear hK K)))
              | ((with_reducible refine quiet_skip ?_ ?_); (focus (simp [Region.wanted, yielded]; done)); simp only [Act.put, List.setIfInBounds_toArray, List.set_cons_succ, List.set_cons_zero])
              | ((with_reducible refine quiet_go ?_ (fun K hK => ?_)); (focus (simp [Region.wanted, yielded]; done)); (focus (apply quiet_val; (focus (intro w' hw; obtain ⟨hcq, hfq⟩ := bcell ((hC.out _).1 hw); go_simp; (first | done | rfl | (with_reducible exact call_below hC hw (taskErr_any B t A3 t.after.length c3 _ rfl (HTa.out.below (((hC.out _).1 hw).mono hBa)) (Nat.le_trans hBa ((hC.out _).1 hw).size) hm3)) | (with_reducible exact call_same hw (unless_any _ _ _))))); (simp only [Act.put, List.setIfInBounds_toArray, List.set_cons_succ, List.set_cons_zero]); (with_reducible refine hK _ ?_); clear hK K))))
            refine wpQuiet_nil ?_
            intro w1 hb1
            replace hb1 := (hC.out _).1 hb1
            clear hC C
            obtain ⟨hc1, hf1⟩ := bcell hb1
            go_wp2_with (go_at_call 86; refine (first2' _ _ _ _ _ (by first | (go_simp; done) | (go_simp; rfl)) (by first | (go_simp; done) | (go_simp; rfl)) _ HV1.out).mono ?_; rintro e w' ⟨rfl, rfl⟩)
            go_roundw
            case rel => exact ⟨k + 1, by omega, by go_num, HG.out, (q0.alloc.past hb1).alloc, (q1.alloc.past hb1).alloc, (q2.alloc.past hb1).alloc, pa (pt (pa hq2) hb1)⟩
            case measure => simp [intOf]; omega
        · have HG := Lib.hid (show scan (openE1 m ts) ts.length 0 = (k, openE1 m ts k) by rw [HF.out, if_neg (by simpa using hF)])
          have HV1 := Lib.hid hv1
          clear hv1 HF
          generalize openE1 m ts k = F at *
          have HV3 := Lib.hid (show V = (k, F) by rw [HV2.out, HG.out, if_pos (by simpa using hF)])
          rcases hR with ⟨hR, rfl⟩ | ⟨hR, rfl⟩
          all_goals
            go_wp2_with (go_at_call 123; refine HCF.out.mono ?_; rintro e w' ⟨rfl, rfl⟩)
            refine region_below 12 follows_mixed (by kernel_rfl) ?_
            intro C hC
            simp only [List.take_succ_cons, List.take_zero, List.drop_succ_cons, List.drop_zero]
            repeat (first
              | ((with_reducible refine quiet_plain rfl (fun K hK => ?_)); (focus (apply quiet_val; (focus (intro w' hw; obtain ⟨hcq, hfq⟩ := bcell ((hC.out _).1 hw); go_simp; (first | done | rfl | (with_reducible exact call_below hC hw (taskErr_any B t A3 t.after.length c3 _ rfl (HTa.out.below (((hC.out _).1 hw).mono hBa)) (Nat.le_trans hBa ((hC.out _).1 hw).size) hm3)) | (with_reducible exact call_same hw (unless_any _ _ _))))); (simp only [Act.put, List.setIfInBounds_toArray, List.set_cons_succ, List.set_cons_zero]); (with_reducible refine hK _ ?_); clear hK K)))
              | ((with_reducible refine quiet_skip ?_ ?_); (focus (simp [Region.wanted, yielded]; done)); simp only [Act.put, List.setIfInBounds_toArray, List.set_cons_succ, List.set_cons_zero])
              | ((with_reducible refine quiet_go ?_ (fun K hK => ?_)); (focus (simp [Region.wanted, yielded]; done)); (focus (apply quiet_val; (focus (intro w' hw; obtain ⟨hcq, hfq⟩ := bcell ((hC.out _).1 hw); go_simp; (first | done | rfl | (with_reducible exact call_below hC hw (taskErr_any B t A3 t.after.length c3 _ rfl (HTa.out.below (((hC.out _).1 hw).mono hBa)) (Nat.le_trans hBa ((hC.out _).1 hw).size) hm3)) | (with_reducible exact call_same hw (unless_any _ _ _))))); (simp only [Act.put, List.setIfInBounds_toArray, List.set_cons_succ, List.set_cons_zero]); (with_reducible refine hK _ ?_); clear hK K))))
            refine wpQuiet_nil ?_
            intro w1 hb1
            replace hb1 := (hC.out _).1 hb1
            clear hC C
            obtain ⟨hc1, hf1⟩ := bcell hb1
            have p1 := q1.alloc.past hb1
            have p2 := q2.alloc.past hb1
            have e0 := p1.cellAt 0 rfl
            have e1 := p1.cellAt 1 rfl
            have f0 := p1.frozen 0
            have f1 := p1.frozen 1
            have g0 := p2.cellAt 0 rfl
            have g1 := p2.cellAt 1 rfl
            have x1 := p1.lt
            have x2 := p2.lt
            clear hc1 hf1
            go_wp2_with (go_at_call 86; refine (first2' _ _ _ _ _ (by first | (go_simp; done) | (go_simp; rfl)) (by first | (go_simp; done) | (go_simp; rfl)) _ HV1.out).mono ?_; rintro e w' ⟨rfl, rfl⟩)
            refine bodyPost_ret (v := .tuple #[.agg #[.int .i64 m, .slice (some ⟨b, off, none⟩) ts.length c], .int .i64 (k : Int), .int .i64 F]) (by simp [results, Try.results115, go_sem, e0, e1, x1]) rfl ⟨by rw [HV3.out], ?_⟩
            exact pa (ps (ps (pt (pa hq2) hb1) (by dsimp only; omega)) (by dsimp only; omega))
      · have hF := Lib.hid (show scan (openE1 m ts) ts.length 0 = (0, 0) by rw [hf]; exact scan_end (by omega))
        have HV3 := Lib.hid (show V = scan (openE2 ts) ts.length 0 by rw [HV2.out, hF.out, if_neg (by simp)])
        have hok := HPL2.out (by rw [hF.out])
        have h7 := hok.1
        have HOk := Lib.hid hok
        clear hf hok
        go_wp2
        obtain ⟨wo, rfl⟩ : ∃ wo : World, wo = wr := ⟨_, rfl⟩
        go_loopw [64] (fun i wr => ∃ k : Nat, k ≤ ts.length ∧ i = .int .i64 (k : Int) ∧ scan (openE2 ts) ts.length 0 = scan (openE2 ts) ts.length k ∧ Blk wr (w.heap.size + 1) 107 #[.int .i64 0, .slice none 0 0] ∧ Blk wr (w.heap.size + 1 + 1) 107 #[.int .i64 m, .slice A ts.length c] ∧ Below w.heap.size w wr) (fun i _ => ts.length - (intOf i).toNat)
        case atStart => exact ⟨0, Nat.zero_le _, rfl, rfl, q1, q2, hq2⟩
        case round =>
          obtain ⟨k2, hk2, rfl, hf2, s1, s2, hq3⟩ := hrel
          have g0 := s2.cellAt 0 rfl
          have g1 := s2.cellAt 1 rfl
          have x2 := s2.lt
          by_cases hlt2 : k2 < ts.length
          · have HF := Lib.hid (hf2.trans (scan_step hlt2))
            have HE2 := Lib.hid (show openE2 ts k2 = if (needsV ts k2).testBit k2 then 13 else 0 from rfl)
            have n0 : (0 : Int) ≤ (k2 : Int) := by omega
            have HTw := Lib.hid (HR.out.below (hq3.mono hB))
            have hBw : B ≤ wr.heap.size := Nat.le_trans hB hq3.size
            have hlt128 := needsV_lt HOk.out hlt2
            have e1 : IntKind.i64.wrap (2 ^ k2) = bitV k2 := wrap_bit (by omega)
            have hne := bitV_ne k2
            cases ht : (needsV ts k2).testBit k2 with
            | true =>
              have e2 := bits_and_yes (K := needsV ts k2) (j := k2) (by omega) (by omega) ht
              have HG := Lib.hid (show scan (openE2 ts) ts.length 0 = (k2, 13) by rw [HF.out, HE2.out, ht]; rfl)
              clear ht hf2 HF HE2
              go_wp2
              refine region_below 6 follows_mixed (by kernel_rfl) ?_
              intro C hC
              simp only [List.take_succ_cons, List.take_zero, List.drop_succ_cons, List.drop_zero]
              repeat (first
                | ((with_reducible refine quiet_plain rfl (fun K hK => ?_)); (focus (apply quiet_val; (focus (intro w' hw; obtain ⟨hcq, hfq⟩ := bcell ((hC.out _).1 hw); go_simp; (first | done | rfl | (with_reducible exact call_below hC hw (needs_any B ts A c m k2 _ (HTw.out.below (((hC.out _).1 hw).mono hBw)) (Nat.le_trans hBw ((hC.out _).1 hw).size) hlt2 HOk.out))))); (simp only [Act.put, List.setIfInBounds_toArray, List.set_cons_succ, List.set_cons_zero]); (with_reducible refine hK _ ?_); clear hK K)))
                | ((with_reducible refine quiet_skip ?_ ?_); (focus (simp [Region.wanted, yielded]; done)); simp only [Act.put, List.setIfInBounds_toArray, List.set_cons_succ, List.set_cons_zero])
                | ((with_reducible refine quiet_go ?_ (fun K hK => ?_)); (focus (simp [Region.wanted, yielded]; done)); (focus (apply quiet_val; (focus (intro w' hw; obtain ⟨hcq, hfq⟩ := bcell ((hC.out _).1 hw); go_simp; (first | done | rfl | (with_reducible exact call_below hC hw (needs_any B ts A c m k2 _ (HTw.out.below (((hC.out _).1 hw).mono hBw)) (Nat.le_trans hBw ((hC.out _).1 hw).size) hlt2 HOk.out))))); (simp only [Act.put, List.setIfInBounds_toArray, List.set_cons_succ, List.set_cons_zero]); (with_reducible refine hK _ ?_); clear hK K))))
              refine wpQuiet_nil ?_
              intro w1 hb1
              replace hb1 := (hC.out _).1 hb1
              clear hC C
              obtain ⟨hc1, hf1⟩ := bcell hb1
              have p1 := s1.past hb1
              have p2 := s2.past hb1
              have e0 := p1.cellAt 0 rfl
              have e3 := p1.cellAt 1 rfl
              have f0 := p1.frozen 0
              have f1 := p1.frozen 1
              have g3 := p2.cellAt 0 rfl
              have g4 := p2.cellAt 1 rfl
              clear hc1 hf1
              go_wp2
              refine bodyPost_ret (v := .tuple #[.agg #[.int .i64 m, .slice A ts.length c], .int .i64 (k2 : Int), .int .i64 13]) (by simp [results, Try.results115, go_sem, e0, e3]) rfl ⟨by rw [HV3.out, HG.out], ?_⟩
              exact ps (ps (pt hq3 hb1) (by dsimp only; omega)) (by dsimp only; omega)
            | false =>
              have e2 := bits_and_no (K := needsV ts k2) (j := k2) (by omega) (by omega) ht
              have HG := Lib.hid (show scan (openE2 ts) ts.length 0 = scan (openE2 ts) ts.length (k2 + 1) by rw [HF.out, HE2.out, ht]; rfl)
              clear ht hf2 HF HE2
              go_wp2
              refine region_below 6 follows_mixed (by kernel_rfl) ?_
              intro C hC
              simp only [List.take_succ_cons, List.take_zero, List.drop_succ_cons, List.drop_zero]
              repeat (first
                | ((with_reducible refine quiet_plain rfl (fun K hK => ?_)); (focus (apply quiet_val; (focus (intro w' hw; obtain ⟨hcq, hfq⟩ := bcell ((hC.out _).1 hw); go_simp; (first | done | rfl | (with_reducible exact call_below hC hw (needs_any B ts A c m k2 _ (HTw.out.below (((hC.out _).1 hw).mono hBw)) (Nat.le_trans hBw ((hC.out _).1 hw).size) hlt2 HOk.out))))); (simp only [Act.put, List.setIfInBounds_toArray, List.set_cons_succ, List.set_cons_zero]); (with_reducible refine hK _ ?_); clear hK K)))
                | ((with_reducible refine quiet_skip ?_ ?_); (focus (simp [Region.wanted, yielded]; done)); simp only [Act.put, List.setIfInBounds_toArray, List.set_cons_succ, List.set_cons_zero])
                | ((with_reducible refine quiet_go ?_ (fun K hK => ?_)); (focus (simp [Region.wanted, yielded]; done)); (focus (apply quiet_val; (focus (intro w' hw; obtain ⟨hcq, hfq⟩ := bcell ((hC.out _).1 hw); go_simp; (first | done | rfl | (with_reducible exact call_below hC hw (needs_any B ts A c m k2 _ (HTw.out.below (((hC.out _).1 hw).mono hBw)) (Nat.le_trans hBw ((hC.out _).1 hw).size) hlt2 HOk.out))))); (simp only [Act.put, List.setIfInBounds_toArray, List.set_cons_succ, List.set_cons_zero]); (with_reducible refine hK _ ?_); clear hK K))))
              refine wpQuiet_nil ?_
              intro w1 hb1
              replace hb1 := (hC.out _).1 hb1
              clear hC C
              obtain ⟨hc1, hf1⟩ := bcell hb1
              go_wp2
              go_roundw
              case rel => exact ⟨k2 + 1, by omega, by go_num, HG.out, s1.past hb1, s2.past hb1, pt hq3 hb1⟩
              case measure => simp [intOf]; omega
          · have HG := Lib.hid (show V = (0, 0) by rw [HV3.out, hf2]; exact scan_end (by omega))
            have e0 := s1.cellAt 0 rfl
            have e3 := s1.cellAt 1 rfl
            have f0 := s1.frozen 0
            have f1 := s1.frozen 1
            clear hf2
            go_wp2
            refine bodyPost_ret (v := .tuple #[.agg #[.int .i64 m, .slice A ts.length c], .int .i64 0, .int .i64 0]) (by simp [results, Try.results115, go_sem, e0, e3]) rfl ⟨by rw [HG.out]; rfl, ?_⟩
            exact ps (ps hq3 (by dsimp only; omega)) (by dsimp only; omega)
  · have HV2 := Lib.hid (show V = (0, E0) by rw [HV.out, if_pos (by simpa using hE)])
    clear HV HPL
    go_enter Try.func115, Try.ntmps115
    go_wp2
    refine region_below 9 follows_mixed (by kernel_rfl) ?_
    intro C hC
    simp only [List.take_succ_cons, List.take_zero, List.drop_succ_cons, List.drop_zero]
    repeat (first
      | ((with_reducible refine quiet_plain rfl (fun K hK => ?_)); (focus (apply quiet_val; (focus (intro w' hw; obtain ⟨hcq, hfq⟩ := bcell ((hC.out _).1 hw); go_simp; (first | done | rfl | (with_reducible exact call_same hw (within_any _ _ _ _)) | (with_reducible exact call_same hw (unless_any _ _ _))))); (simp only [Act.put, List.setIfInBounds_toArray, List.set_cons_succ, List.set_cons_zero]); (with_reducible refine hK _ ?_); clear hK K)))
      | ((with_reducible refine quiet_skip ?_ ?_); (focus (simp [Region.wanted, yielded]; done)); simp only [Act.put, List.setIfInBounds_toArray, List.set_cons_succ, List.set_cons_zero])
      | ((with_reducible refine quiet_go ?_ (fun K hK => ?_)); (focus (simp [Region.wanted, yielded]; done)); (focus (apply quiet_val; (focus (intro w' hw; obtain ⟨hcq, hfq⟩ := bcell ((hC.out _).1 hw); go_simp; (first | done | rfl | (with_reducible exact call_same hw (within_any _ _ _ _)) | (with_reducible exact call_same hw (unless_any _ _ _))))); (simp only [Act.put, List.setIfInBounds_toArray, List.set_cons_succ, List.set_cons_zero]); (with_reducible refine hK _ ?_); clear hK K))))
    refine wpQuiet_nil ?_
    intro w1 hb1
    replace hb1 := (hC.out _).1 hb1
    clear hC C
    obtain ⟨hc1, hf1⟩ := bcell hb1
    have r1 : Blk w1 (w.heap.size + 1) 107 #[.int .i64 0, .slice none 0 0] := ((Blk.newAt (by simp)).alloc).past hb1
    have r2 : Blk w1 (w.heap.size + 1 + 1) 107 #[.int .i64 m, .slice A ts.length c] := (Blk.newAt (by simp)).past hb1
    have e0 := r1.cellAt 0 rfl
    have e3 := r1.cellAt 1 rfl
    have f0 := r1.frozen 0
    have f1 := r1.frozen 1
    have g3 := r2.cellAt 0 rfl
    have g4 := r2.cellAt 1 rfl
    have x1 := r1.lt
    have x2 := r2.lt
    clear hc1 hf1
    go_wp2_with (go_at_call 86; refine (first2' _ _ _ _ _ (by first | (go_simp; done) | (go_simp; rfl)) (by first | (go_simp; done) | (go_simp; rfl)) _ HE0.out).mono ?_; rintro e w' ⟨rfl, rfl⟩)
    refine bodyPost_ret (v := .tuple #[.agg #[.int .i64 m, .slice A ts.length c], .int .i64 0, .int .i64 E0]) (by simp [results, Try.results115, go_sem, e0, e3, x1]) rfl ⟨by rw [HV2.out]; rfl, ?_⟩
    exact pa (ps (ps (pt (pa (pa (pa pr))) hb1) (by dsimp only; omega)) (by dsimp only; omega))

end Go.Proofs.Ytlgioldmjohhlaa
end

section
namespace Go.Proofs.Ytlgioldmjohhlaa
open Go.RowKit

theorem pushAll_bits : ∀ (l : List Int) (K : Nat) (S : List Nat), (∀ x ∈ l, 0 ≤ x) → ∀ j : Nat, (pushAll K S l).1.testBit j = true ↔ K.testBit j = true ∨ (j : Int) ∈ l
  | [], K, S, _, j => by simp [pushAll]
  | x :: l, K, S, hl, j => by
    have hx := hl x List.mem_cons_self
    have hl' : ∀ z ∈ l, 0 ≤ z := fun z hz => hl z (List.mem_cons_of_mem _ hz)
    have hjx : (j : Int) = x ↔ x.toNat = j := by omega
    cases ht : K.testBit x.toNat with
    | true =>
      simp only [pushAll, ht, if_true]
      rw [pushAll_bits l K S hl' j, List.mem_cons, hjx]
      constructor
      · rintro (h | h)
        · exact .inl h
        · exact .inr (.inr h)
      · rintro (h | h | h)
        · exact .inl h
        · rw [← h]; exact .inl ht
        · exact .inr h
    | false =>
      simp only [pushAll, ht, Bool.false_eq_true, if_false]
      rw [pushAll_bits l _ _ hl' j, List.mem_cons, hjx, Nat.testBit_or, Nat.testBit_two_pow]
      simp only [Bool.or_eq_true, decide_eq_true_eq]
      constructor
      · rintro ((h | h) | h)
        · exact .inl h
        · exact .inr (.inl h)
        · exact .inr (.inr h)
      · rintro (h | h | h)
        · exact .inl (.inl h)
        · exact .inl (.inr h)
        · exact .inr h

theorem pushAll_stack : ∀ (l : List Int) (K : Nat) (S : List Nat), (∀ x ∈ l, 0 ≤ x) →
    (∀ y ∈ S, y ∈ (pushAll K S l).2) ∧ (∀ j : Nat, (j : Int) ∈ l → K.testBit j = false → j ∈ (pushAll K S l).2)
  | [], K, S, _ => ⟨fun y hy => hy, fun j hj => by cases hj⟩
  | x :: l, K, S, hl => by
    have hx := hl x List.mem_cons_self
    have hl' : ∀ z ∈ l, 0 ≤ z := fun z hz => hl z (List.mem_cons_of_mem _ hz)
    cases ht : K.testBit x.toNat with
    | true =>
      obtain ⟨h1, h2⟩ := pushAll_stack l K S hl'
      simp only [pushAll, ht, if_true]
      refine ⟨h1, fun j hj hb => ?_⟩
      rcases List.mem_cons.1 hj with h | h
      · rw [show x.toNat = j by omega, hb] at ht; cases ht
      · exact h2 j h hb
    | false =>
      obtain ⟨h1, h2⟩ := pushAll_stack l (K ||| 2 ^ x.toNat) (S ++ [x.toNat]) hl'
      simp only [pushAll, ht, Bool.false_eq_true, if_false]
      refine ⟨fun y hy => h1 y (List.mem_append_left _ hy), fun j hj hb => ?_⟩
      by_cases e : j = x.toNat
      · rw [e]; exact h1 _ (by simp)
      · rcases List.mem_cons.1 hj with h | h
        · omega
        · refine h2 j h ?_
          rw [Nat.testBit_or, Nat.testBit_two_pow, hb]
          simp
          omega

theorem needsRun_end {ts : List Task} (hp : PlanOk ts) {Inv : Nat → List Nat → Prop}
    (hstep : ∀ K S x, x < ts.length → Inv K (S ++ [x]) → Inv (pushAll K S (ts.getD x default).after).1 (pushAll K S (ts.getD x default).after).2) :
    ∀ (f K : Nat) (S : List Nat), K < 128 → (∀ x ∈ S, x < ts.length) → (127 - K) * 10 + S.length ≤ f → Inv K S → Inv (needsRun ts f K S) []
  | 0, K, S, hK, _, hf, hI => by
    have : S = [] := List.eq_nil_of_length_eq_zero (by omega)
    subst this
    exact hI
  | f + 1, K, S, hK, hS, hf, hI => by
    rcases List.eq_nil_or_concat S with rfl | ⟨S0, x, rfl⟩
    · exact hI
    · have hx : x < ts.length := hS x (by simp)
      have h7 := hp.1
      have ha := after_in hp hx
      have ha7 := (hp.2 x hx).1
      simp only [List.concat_eq_append] at *
      obtain ⟨p1, p2, p3, p4, p5⟩ := pushAll_spec (ts.getD x default).after K S0 hK (fun z hz => by have := ha z hz; omega)
      have hI2 := hstep K S0 x hx hI
      simp only [needsRun, List.getLast?_concat, List.dropLast_concat]
      refine needsRun_end hp hstep f _ _ p2 (fun z hz => ?_) ?_ hI2
      · rcases p5 z hz with h' | h'
        · exact hS z (by simp [h'])
        · have := ha _ h'; omega
      · simp only [List.length_append, List.length_cons, List.length_nil] at hf
        by_cases e : (pushAll K S0 (ts.getD x default).after).1 = K
        · have := p4 e; rw [e]; omega
        · omega

/-- What a task depends on: its predecessors, theirs, and nothing else. -/
theorem needs_closed {ts : List Task} (hp : PlanOk ts) {i : Nat} (hi : i < ts.length) :
    (∀ x : Nat, (x : Int) ∈ (ts.getD i default).after → (needsV ts i).testBit x = true) ∧
    (∀ k, k < ts.length → (needsV ts i).testBit k = true → ∀ x : Nat, (x : Int) ∈ (ts.getD k default).after → (needsV ts i).testBit x = true) := by
  have H := needsRun_end hp (Inv := fun K S => ∀ y, y < ts.length → (y = i ∨ K.testBit y = true) → y ∈ S ∨ ∀ x : Nat, (x : Int) ∈ (ts.getD y default).after → K.testBit x = true)
    (fun K S x hx hI y hy hyk => by
      have ha : ∀ z ∈ (ts.getD x default).after, 0 ≤ z := fun z hz => (after_in hp hx z hz).1
      obtain ⟨s1, s2⟩ := pushAll_stack (ts.getD x default).after K S ha
      have hb := pushAll_bits (ts.getD x default).after K S ha
      have old : (y = i ∨ K.testBit y = true) → y ∈ (pushAll K S (ts.getD x default).after).2 ∨ ∀ z : Nat, (z : Int) ∈ (ts.getD y default).after → (pushAll K S (ts.getD x default).after).1.testBit z = true := fun h => by
        rcases hI y hy h with h1 | h1
        · rcases List.mem_append.1 h1 with h2 | h2
          · exact .inl (s1 y h2)
          · obtain rfl : y = x := by simpa using h2
            exact .inr fun z hz => (hb z).2 (.inr hz)
        · exact .inr fun z hz => (hb z).2 (.inl (h1 z hz))
      rcases hyk with h | h
      · exact old (.inl h)
      · rcases (hb y).1 h with h1 | h1
        · exact old (.inr h1)
        · cases hk : K.testBit y with
          | true => exact old (.inr hk)
          | false => exact .inl (s2 y h1 hk))
    1300 0 [i] (by decide) (by simpa using hi) (by simp) (fun y hy h => by
      rcases h with h | h
      · exact .inl (by simp [h])
      · simp at h)
  refine ⟨fun x hx => ?_, fun k hk hb x hx => ?_⟩
  · rcases H i hi (.inl rfl) with h | h
    · cases h
    · exact h x hx
  · rcases H k hk (.inr hb) with h | h
    · cases h
    · exact h x hx

theorem needs_least {ts : List Task} (hp : PlanOk ts) {i : Nat} (hi : i < ts.length) (Q : Nat → Prop) (h0 : ∀ x : Nat, (x : Int) ∈ (ts.getD i default).after → Q x)
    (h1 : ∀ k, k < ts.length → Q k → ∀ x : Nat, (x : Int) ∈ (ts.getD k default).after → Q x) : ∀ j, (needsV ts i).testBit j = true → Q j := by
  have H := needsRun_end hp (Inv := fun K S => (∀ j, K.testBit j = true → Q j) ∧ ∀ y ∈ S, y = i ∨ Q y)
    (fun K S x hx hI => by
      have ha : ∀ z ∈ (ts.getD x default).after, 0 ≤ z := fun z hz => (after_in hp hx z hz).1
      have hq : ∀ z : Nat, (z : Int) ∈ (ts.getD x default).after → Q z := fun z hz => by
        rcases hI.2 x (by simp) with h | h
        · subst h; exact h0 z hz
        · exact h1 x hx h z hz
      refine ⟨fun j hj => ?_, fun y hy => ?_⟩
      · rcases (pushAll_bits _ K S ha j).1 hj with h | h
        · exact hI.1 j h
        · exact hq j h
      · have hmem : ∀ (l : List Int) (K : Nat) (S : List Nat), (∀ x ∈ l, 0 ≤ x) → ∀ y ∈ (pushAll K S l).2, y ∈ S ∨ (y : Int) ∈ l := by
          intro l
          induction l with
          | nil => intro K S _ y hy; exact .inl hy
          | cons z l ih =>
            intro K S hl y hy
            have hz := hl z List.mem_cons_self
            have hl' : ∀ x ∈ l, 0 ≤ x := fun x hx => hl x (List.mem_cons_of_mem _ hx)
            cases ht : K.testBit z.toNat with
            | true =>
              simp only [pushAll, ht, if_true] at hy
              exact (ih K S hl' y hy).imp id (List.mem_cons_of_mem _)
            | false =>
              simp only [pushAll, ht, Bool.false_eq_true, if_false] at hy
              rcases ih _ _ hl' y hy with h | h
              · rcases List.mem_append.1 h with h | h
                · exact .inl h
                · have e : y = z.toNat := by simpa using h
                  exact .inr (by rw [e, show ((z.toNat : Nat) : Int) = z by omega]; exact List.mem_cons_self)
              · exact .inr (List.mem_cons_of_mem _ h)
        rcases hmem _ K S ha y hy with h | h
        · exact hI.2 y (List.mem_append_left _ h)
        · exact .inr (hq y h))
    1300 0 [i] (by decide) (by simpa using hi) (by simp) ⟨fun j hj => by simp at hj, fun y hy => .inl (by simpa using hy)⟩
  exact H.1

theorem needs_bound {ts : List Task} (hp : PlanOk ts) {i : Nat} (hi : i < ts.length) : ∀ j, (needsV ts i).testBit j = true → j < ts.length :=
  needs_least hp hi (fun j => j < ts.length) (fun x hx => by have := after_in hp hi _ hx; omega) (fun k hk _ x hx => by have := after_in hp hk _ hx; omega)

/-- What a task depends on depends on less. -/
theorem needs_sub {ts : List Task} (hp : PlanOk ts) {i j : Nat} (hi : i < ts.length) (hj : (needsV ts i).testBit j = true) : ∀ k, (needsV ts j).testBit k = true → (needsV ts i).testBit k = true := by
  have hjn := needs_bound hp hi j hj
  obtain ⟨h1, h2⟩ := needs_closed hp hi
  exact needs_least hp hjn (fun k => (needsV ts i).testBit k = true) (fun x hx => h2 j hjn hj x hx) (fun k hk hq x hx => h2 k hk hq x hx)

end Go.Proofs.Ytlgioldmjohhlaa
end
