/- Contracts: comparing two rows of numbers; whether some tasks are of several machines. -/
import Derived.Test.YtlgioldmjohhlaaU4BusyBound
namespace Go.Proofs.Ytlgioldmjohhlaa
open Go.RowKit Go.Shelf

/-- Which of two rows comes first: -1, 0, 1. -/
def cmpV : List Int → List Int → Int
  | [], [] => 0
  | [], _ :: _ => -1
  | _ :: _, [] => 1
  | a :: la, b :: lb => if a < b then -1 else if b < a then 1 else cmpV la lb
theorem cmpV_step {xs ys : List Int} {k : Nat} (h1 : k < xs.length) (h2 : k < ys.length) : cmpV (xs.drop k) (ys.drop k) = if xs.getD k 0 < ys.getD k 0 then -1 else if ys.getD k 0 < xs.getD k 0 then 1 else cmpV (xs.drop (k + 1)) (ys.drop (k + 1)) := by
  have e1 : xs.getD k 0 = xs[k] := by simp [List.getD, h1]
  have e2 : ys.getD k 0 = ys[k] := by simp [List.getD, h2]
  rw [List.drop_eq_getElem_cons h1, List.drop_eq_getElem_cons h2, cmpV, e1, e2]

set_option maxHeartbeats 1000000 in
set_option maxRecDepth 100000 in
theorem compare_any (B : Nat) (A A2 : Option Addr) (n c c2 : Nat) (xs ys : List Int) (w : World) (hr : IntsIn B w A xs) (hr2 : IntsIn B w A2 ys) (hB : B ≤ w.heap.size) (hn : xs.length = n) (hn2 : ys.length = n) (hm : n ≤ 1000) :
    Calls Try.prog 124 #[.slice A n c, .slice A2 n c2] w fun e w' => e = .returned (.int .i64 (cmpV xs ys)) ∧ Below w.heap.size w w' := by
  have HV := Lib.hid (show cmpV xs ys = cmpV (xs.drop 0) (ys.drop 0) by simp)
  have HR := Lib.hid hr
  have HR2 := Lib.hid hr2
  have HN := Lib.hid (And.intro hn hn2)
  clear hr hr2 hn hn2
  generalize cmpV xs ys = V at *
  go_enter Try.func124, Try.ntmps124
  go_wp2
  go_loopw [11] (fun i wr => ∃ k : Nat, k ≤ n ∧ i = .int .i64 k ∧ V = cmpV (xs.drop k) (ys.drop k) ∧ Below w.heap.size w wr) (fun i _ => n - (intOf i).toNat)
  case atStart => exact ⟨0, Nat.zero_le _, rfl, HV.out, pr⟩
  case round =>
    obtain ⟨k, hk, rfl, hf, hq⟩ := hrel
    have HQ := Lib.hid hq
    by_cases hlt : k < n
    · obtain ⟨b, off, hA, hb, hc⟩ := (HR.out.below (hq.mono hB)).at_ (k := k) (by rw [HN.out.1]; exact hlt)
      obtain ⟨b2, off2, hA2, hb2, hc2⟩ := (HR2.out.below (hq.mono hB)).at_ (k := k) (by rw [HN.out.2]; exact hlt)
      have d1 := hc k (by rw [HN.out.1]; exact hlt)
      have d2 := hc2 k (by rw [HN.out.2]; exact hlt)
      have hbw : b < wr.heap.size := Nat.lt_of_lt_of_le hb (Nat.le_trans hB hq.size)
      have hbw2 : b2 < wr.heap.size := Nat.lt_of_lt_of_le hb2 (Nat.le_trans hB hq.size)
      have HF := Lib.hid (hf.trans (cmpV_step (by rw [HN.out.1]; exact hlt) (by rw [HN.out.2]; exact hlt)))
      have k0 : (0 : Int) ≤ (k : Int) := by omega
      have k1 : (k : Int) < (n : Int) := by omega
      have k2 : ¬ (n : Int) ≤ (k : Int) := by omega
      subst hA hA2
      clear hc hc2 hf hq
      generalize xs.getD k 0 = x at *
      generalize ys.getD k 0 = y at *
      have hx1 : (x != x) = false := by simp
      have hx2 : (y != y) = false := by simp
      by_cases h1 : x < y
      · have HV2 := Lib.hid (show V = -1 by rw [HF.out, if_pos h1])
        have h1' : decide (x < y) = true := decide_eq_true h1
        go_wp2
        go_ret
        exact ⟨ret_int HV2.out.symm, HQ.out⟩
      · by_cases h2 : y < x
        · have HV2 := Lib.hid (show V = 1 by rw [HF.out, if_neg h1, if_pos h2])
          have h1' : decide (x < y) = false := decide_eq_false h1
          have h2' : decide (y < x) = true := decide_eq_true h2
          go_wp2
          go_ret
          exact ⟨ret_int HV2.out.symm, HQ.out⟩
        · have HV2 := Lib.hid (show V = cmpV (xs.drop (k + 1)) (ys.drop (k + 1)) by rw [HF.out, if_neg h1, if_neg h2])
          have h1' : decide (x < y) = false := decide_eq_false h1
          have h2' : decide (y < x) = false := decide_eq_false h2
          go_wp2
          go_roundw
          case rel => exact ⟨k + 1, by omega, by go_num, HV2.out, HQ.out⟩
          case measure => simp [intOf]; omega
    · have HV2 := Lib.hid (show V = 0 by rw [hf, List.drop_eq_nil_of_le (by rw [HN.out.1]; omega), List.drop_eq_nil_of_le (by rw [HN.out.2]; omega)]; rfl)
      clear hf
      go_wp2
      go_ret
      exact ⟨ret_int HV2.out.symm, HQ.out⟩


def otherB (ts : List Task) (l : List Int) (n : Int) : Bool := decide ((ts.getD n.toNat default).machine ≠ (ts.getD (l.getD 0 0).toNat default).machine)

set_option maxHeartbeats 1000000 in
set_option maxRecDepth 100000 in
theorem other1_any (B pb tb : Nat) (ts : List Task) (l : List Int) (A A2 : Option Addr) (c c2 : Nat) (n : Nat) (w : World) (hr : TasksIn B w A ts) (hr2 : IntsIn w.heap.size w A2 l) (hB : B ≤ w.heap.size) (hn : n < ts.length) (hl0 : 0 < l.length) (hl1 : 0 ≤ l.getD 0 0 ∧ l.getD 0 0 < (ts.length : Int))
    (hp1 : w.cell? ⟨pb, 1, none⟩ = some (.slice A ts.length c)) (ht0 : w.cell? ⟨tb, 0, none⟩ = some (.slice A2 l.length c2)) :
    Calls Try.prog 122 #[.int .i64 (n : Int), .pointer (some ⟨pb, 0, none⟩), .pointer (some ⟨tb, 0, none⟩)] w fun e w' => e = .returned (.bool (otherB ts l (n : Int))) ∧ Below w.heap.size w w' := by
  obtain ⟨b2, off2, hA2, hb2, hc2⟩ := hr2.at_ hl0
  subst hA2
  have d0 : w.cell? ⟨b2, off2, none⟩ = some (.int .i64 (l.getD 0 0)) := hc2 0 hl0
  have HV := Lib.hid (show otherB ts l (n : Int) = decide ((ts.getD n default).machine ≠ (ts.getD (l.getD 0 0).toNat default).machine) from rfl)
  generalize otherB ts l (n : Int) = V at *
  generalize l.getD 0 0 = y at *
  obtain ⟨q, rfl⟩ : ∃ q : Nat, y = (q : Int) := ⟨y.toNat, by omega⟩
  obtain ⟨b, off, hA, hbB, hct⟩ := hr.at_ hn
  subst hA
  obtain ⟨t0, _⟩ := hct n hn
  obtain ⟨t1, _⟩ := hct q (by omega)
  rw [Int.toNat_natCast] at HV
  have n0 : (0 : Int) ≤ (n : Int) := by omega
  have n1 : (n : Int) < (ts.length : Int) := by omega
  have q0 : (0 : Int) ≤ (q : Int) := by omega
  have q1 := hl1.2
  have hbw : b < w.heap.size := by omega
  clear hr hr2 hct hc2 hl1
  generalize (ts.getD n default).machine = mn at *
  generalize (ts.getD q default).machine = mq at *
  by_cases hmm : mn = mq
  · have hmb : ((mn : Int) != mq) = false := by simp [hmm]
    have HV2 := Lib.hid (show V = false by rw [HV.out, hmm]; simp)
    clear hmm
    go_enter Try.func122, Try.ntmps122
    go_wp2
    go_quiet (fail)
    go_wp2
    go_ret
    exact ⟨ret_bool HV2.out.symm, below_drewN' pr _⟩
  · have hmb : ((mn : Int) != mq) = true := by simpa using hmm
    have HV2 := Lib.hid (show V = true by rw [HV.out]; simpa using hmm)
    clear hmm
    go_enter Try.func122, Try.ntmps122
    go_wp2
    go_quiet (fail)
    go_wp2
    go_ret
    exact ⟨ret_bool HV2.out.symm, below_drewN' pr _⟩

set_option maxHeartbeats 1000000 in
theorem indexFunc_other (B : Nat) (A : Option Addr) (n c : Nat) (xs : List Int) (p : Int → Bool) (q1 q2 : Value) (w : World) (hr : IntsIn B w A xs) (hB : B ≤ w.heap.size) (hn : xs.length = n) (hm : n ≤ 1000)
    (hcb : ∀ j, j < xs.length → ∀ W, Below w.heap.size w W → Calls Try.prog 122 #[.int .i64 (xs.getD j 0), q1, q2] W fun e w' => e = .returned (.bool (p (xs.getD j 0))) ∧ Below W.heap.size W w') :
    Calls Try.prog 144 #[.slice A n c, .func (.func 122) #[] #[q1, q2]] w fun e w' => e = .returned (.int .i64 (findFrom p xs 0)) ∧ Below w.heap.size w w' := by
  subst hn
  have HC := Lib.hid hcb
  have HR := Lib.hid hr
  clear hcb hr
  go_enter Try.func144, Try.ntmps144
  go_wp2
  go_loopw [8] (fun i wr => ∃ k : Nat, k ≤ xs.length ∧ i = .int .i64 k ∧ findFrom p xs 0 = findFrom p xs k ∧ Below w.heap.size w wr) (fun i _ => xs.length - (intOf i).toNat)
  case atStart => exact ⟨0, Nat.zero_le _, rfl, rfl, pr⟩
  case round =>
    obtain ⟨k, hk, rfl, hf, hq⟩ := hrel
    by_cases hlt : k < xs.length
    · obtain ⟨b, off, hA, hb, hc⟩ := (HR.out.below (hq.mono hB)).at_ hlt
      subst hA
      have hcell := hc k hlt
      have hbw : b < wr.heap.size := Nat.lt_of_lt_of_le hb (Nat.le_trans hB hq.size)
      have HF := Lib.hid (hf.trans (findFrom_step p xs k hlt))
      have HCk := Lib.hid (HC.out k hlt wr hq)
      have k0 : (0 : Int) ≤ (k : Int) := by omega
      have k1 : (k : Int) < (xs.length : Int) := by omega
      clear hc hf
      generalize xs.getD k 0 = y at *
      cases hxy : p y with
      | false =>
        rw [hxy] at HCk
        have HX := Lib.hid hxy
        clear hxy
        go_wp2_with (go_at_call 122; go_must (refine HCk.out.mono ?_); rintro e w1 ⟨rfl, hb1⟩)
        go_roundw
        case rel => exact ⟨k + 1, by omega, by go_num, by rw [HF.out, HX.out]; simp, pt hq hb1⟩
        case measure => simp [intOf]; omega
      | true =>
        rw [hxy] at HCk
        have HX := Lib.hid hxy
        clear hxy
        go_wp2_with (go_at_call 122; go_must (refine HCk.out.mono ?_); rintro e w1 ⟨rfl, hb1⟩)
        go_ret
        exact ⟨ret_int (by rw [HF.out, HX.out]; simp), pt hq hb1⟩
    · have HF := Lib.hid (show findFrom p xs 0 = -1 by rw [hf]; exact findFrom_end _ _ _ (by omega))
      clear hf
      go_wp2
      go_ret
      exact ⟨ret_int HF.out.symm, hq⟩

theorem containsFunc_other (B : Nat) (A : Option Addr) (n c : Nat) (xs : List Int) (p : Int → Bool) (q1 q2 : Value) (w : World) (hr : IntsIn B w A xs) (hB : B ≤ w.heap.size) (hn : xs.length = n) (hm : n ≤ 1000)
    (hcb : ∀ j, j < xs.length → ∀ W, Below w.heap.size w W → Calls Try.prog 122 #[.int .i64 (xs.getD j 0), q1, q2] W fun e w' => e = .returned (.bool (p (xs.getD j 0))) ∧ Below W.heap.size W w') :
    Calls Try.prog 123 #[.slice A n c, .func (.func 122) #[] #[q1, q2]] w fun e w' => e = .returned (.bool (anyB p xs)) ∧ Below w.heap.size w w' := by
  have H := Lib.hid (findFrom_any p xs)
  have HI := Lib.hid (indexFunc_other B A n c xs p q1 q2 w hr hB hn hm hcb)
  clear hcb hr hn
  go_enter Try.func123, Try.ntmps123
  go_wp2_with (go_at_call 144; go_must (refine HI.out.mono ?_); rintro e w1 ⟨rfl, hb1⟩)
  go_ret
  exact ⟨ret_bool H.out, hb1⟩

end Go.Proofs.Ytlgioldmjohhlaa
