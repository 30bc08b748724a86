/- Contracts: the law's Few; the specification's TaskErr, over the same value as the program's. -/
import Derived.Test.YtlgioldmjohhlaaP1Copy
import Derived.Deep.QuietTactic
import Derived.BigQuiet
namespace Go.Proofs.Ytlgioldmjohhlaa
open Go.RowKit

def fewB (ts : List Task) : Bool := decide (ts.length ≤ 9) && decide (∀ i, i < ts.length → (ts.getD i default).after.length ≤ 9)
theorem few_iff {ts : List Task} : fewB ts = true ↔ ts.length ≤ 9 ∧ ∀ i, i < ts.length → (ts.getD i default).after.length ≤ 9 := by
  unfold fewB
  rw [Bool.and_eq_true, decide_eq_true_eq, decide_eq_true_eq]
theorem few_small {ts : List Task} (h : fewB ts = true) : SmallPlan ts := by
  obtain ⟨h1, h2⟩ := few_iff.1 h
  exact ⟨by omega, fun i hi => by have := h2 i hi; omega⟩

set_option maxHeartbeats 2000000 in
set_option maxRecDepth 100000 in
theorem few_any (B : Nat) (ts : List Task) (A : Option Addr) (c : Nat) (m : Int) (w : World) (hr : TasksIn B w A ts) (hB : B ≤ w.heap.size) :
    Calls Try.prog 16 #[.agg #[.int .i64 m, .slice A ts.length c]] w fun e w' => e = .returned (.bool (fewB ts)) ∧ Below w.heap.size w w' := by
  have HI := Lib.hid (few_iff (ts := ts))
  generalize fewB ts = V at *
  have HR := Lib.hid hr
  clear hr
  have HNo := Lib.hid (show ¬ (ts.length ≤ 9 ∧ ∀ i, i < ts.length → (ts.getD i default).after.length ≤ 9) → V = false from fun h => by
    cases hV : V with
    | false => rfl
    | true => exact absurd (HI.out.1 hV) h)
  have r0 : Blk (w.alloc (.cells #[.int .i64 m, .slice A ts.length c] 24)) w.heap.size 24 #[.int .i64 m, .slice A ts.length c] := Blk.newAt rfl
  have e1 : (w.alloc (.cells #[.int .i64 m, .slice A ts.length c] 24)).cell? ⟨w.heap.size, 1, none⟩ = some (.slice A ts.length c) := r0.cellAt 1 rfl
  clear r0
  by_cases h1 : (9 : Int) < (ts.length : Int)
  · have HV := Lib.hid (show V = false from HNo.out fun h => by omega)
    have h1n : 9 < ts.length := by omega
    go_enter Try.func16, Try.ntmps16
    go_wp2
    go_ret
    exact ⟨ret_bool HV.out.symm, pa pr⟩
  · have h1d : decide ((9 : Int) < (ts.length : Int)) = false := decide_eq_false h1
    have h1n : ¬ 9 < ts.length := by omega
    have hl : ts.length ≤ 9 := by omega
    go_enter Try.func16, Try.ntmps16
    go_wp2
    clear h1 h1d h1n
    go_loopw [3] (fun i wr => ∃ k : Nat, k ≤ ts.length ∧ i = .int .i64 (k : Int) ∧ (∀ j, j < k → (ts.getD j default).after.length ≤ 9) ∧ wr = w.alloc (.cells #[.int .i64 m, .slice A ts.length c] 24)) (fun i _ => ts.length - (intOf i).toNat)
    case atStart => exact ⟨0, Nat.zero_le _, rfl, fun j hj => by omega, (by first | exact trivial | rfl)⟩
    case round =>
      obtain ⟨k, hk, rfl, hf, rfl⟩ := hrel
      have HF := Lib.hid hf
      clear hf
      by_cases hlt : k < ts.length
      · obtain ⟨b, off, hA, hbB, hct⟩ := (HR.out.below ((pa (o := .cells #[.int .i64 m, .slice A ts.length c] 24) (Below.refl w.heap.size w)).mono hB)).at_ hlt
        subst hA
        obtain ⟨_, _, _, A3, c3, t3, _, _⟩ := hct k hlt
        have hbw : b < w.heap.size := by omega
        have n0 : (0 : Int) ≤ (k : Int) := by omega
        have n1 : (k : Int) < (ts.length : Int) := by omega
        clear hct
        generalize hx : ts.getD k default = x at *
        have HX := Lib.hid hx
        clear hx
        by_cases h3 : (9 : Int) < (x.after.length : Int)
        · have HV := Lib.hid (show V = false from HNo.out fun h => by
            have h4 := h.2 k hlt
            rw [HX.out] at h4
            omega)
          have h3n : 9 < x.after.length := by omega
          go_wp2
          go_ret
          exact ⟨ret_bool HV.out.symm, pa pr⟩
        · have h3d : decide ((9 : Int) < (x.after.length : Int)) = false := decide_eq_false h3
          have h3n : ¬ 9 < x.after.length := by omega
          have H3 := Lib.hid (show x.after.length ≤ 9 by omega)
          go_wp2
          go_roundw
          case rel => exact ⟨k + 1, by omega, by go_num, fun j hj => by
            rcases Nat.lt_or_ge j k with h | h
            · exact HF.out j h
            · obtain rfl : j = k := by omega
              rw [HX.out]
              exact H3.out, (by first | exact trivial | rfl)⟩
          case measure => simp [intOf]; omega
      · have HV := Lib.hid (show V = true from HI.out.2 ⟨hl, fun j hj => HF.out j (by omega)⟩)
        go_wp2
        go_ret
        exact ⟨ret_bool HV.out.symm, pa pr⟩


set_option maxHeartbeats 2000000 in
set_option maxRecDepth 100000 in
theorem refTaskErr_any (B : Nat) (t : Task) (A : Option Addr) (n c : Nat) (w : World) (hn : t.after.length = n) (hr : IntsIn B w A t.after) (hB : B ≤ w.heap.size) (hm : n ≤ 1000) :
    Calls Try.prog 117 #[.agg #[.int .i64 t.machine, .int .i64 t.length, .int .i64 t.release, .slice A n c]] w fun e w' => e = .returned (.int .i64 (taskE t)) ∧ Below w.heap.size w w' := by
  obtain ⟨m, l, r, xs⟩ := t
  dsimp only at *
  have HT := Lib.hid (show taskE ⟨m, l, r, xs⟩ = if taskE1 ⟨m, l, r, xs⟩ ≠ 0 then taskE1 ⟨m, l, r, xs⟩ else (scan (afterErr xs) xs.length 0).2 from rfl)
  have HV1 := Lib.hid (show taskE1 ⟨m, l, r, xs⟩ = firstV [unlessV (withinB m 0 3 && withinB l 1 10000 && withinB r 0 10000) 2, unlessV (decide ((n : Int) ≤ 7)) 8] by rw [← hn]; rfl)
  have HN := Lib.hid hn
  have HR := Lib.hid hr
  clear hn hr
  generalize taskE ⟨m, l, r, xs⟩ = E at *
  generalize taskE1 ⟨m, l, r, xs⟩ = E1 at *
  have hcase : (withinB m 0 3 = false) ∨ (withinB m 0 3 = true ∧ withinB l 1 10000 = false) ∨ (withinB m 0 3 = true ∧ withinB l 1 10000 = true ∧ withinB r 0 10000 = false) ∨ (withinB m 0 3 = true ∧ withinB l 1 10000 = true ∧ withinB r 0 10000 = true) := by
    cases withinB m 0 3 <;> cases withinB l 1 10000 <;> cases withinB r 0 10000 <;> simp
  rcases hcase with h1 | ⟨h1, h2⟩ | ⟨h1, h2, h3⟩ | ⟨h1, h2, h3⟩
  · have HE := Lib.hid (show E = 2 by rw [HT.out, HV1.out, h1]; rfl)
    clear HT HV1
    go_enter Try.func117, Try.ntmps117
    go_wp2_with (go_at_call 32; go_must (refine (baseWithin_any _ _ _ _).mono ?_); rintro e w' ⟨rfl, rfl⟩)
    go_ret
    exact ⟨ret_int HE.out.symm, pa pr⟩
  · have HE := Lib.hid (show E = 2 by rw [HT.out, HV1.out, h1, h2]; rfl)
    clear HT HV1
    go_enter Try.func117, Try.ntmps117
    go_wp2_with (go_at_call 32; go_must (refine (baseWithin_any _ _ _ _).mono ?_); rintro e w' ⟨rfl, rfl⟩)
    go_ret
    exact ⟨ret_int HE.out.symm, pa pr⟩
  · have HE := Lib.hid (show E = 2 by rw [HT.out, HV1.out, h1, h2, h3]; rfl)
    clear HT HV1
    go_enter Try.func117, Try.ntmps117
    go_wp2_with (go_at_call 32; go_must (refine (baseWithin_any _ _ _ _).mono ?_); rintro e w' ⟨rfl, rfl⟩)
    go_ret
    exact ⟨ret_int HE.out.symm, pa pr⟩
  · by_cases h7 : (7 : Int) < (n : Int)
    · have HE := Lib.hid (show E = 8 by rw [HT.out, HV1.out, h1, h2, h3, decide_eq_false (show ¬ (n : Int) ≤ 7 by omega)]; rfl)
      have h7n : 7 < n := by omega
      clear HT HV1
      go_enter Try.func117, Try.ntmps117
      go_wp2_with (go_at_call 32; go_must (refine (baseWithin_any _ _ _ _).mono ?_); rintro e w' ⟨rfl, rfl⟩)
      go_ret
      exact ⟨ret_int HE.out.symm, pa pr⟩
    · have HTE := Lib.hid (show E = (scan (afterErr xs) xs.length 0).2 by rw [HT.out, HV1.out, h1, h2, h3, decide_eq_true (show (n : Int) ≤ 7 by omega)]; rfl)
      have h7n : ¬ 7 < n := by omega
      have h7d : decide ((7 : Int) < (n : Int)) = false := decide_eq_false h7
      clear HT HV1
      go_enter Try.func117, Try.ntmps117
      go_wp2_with (go_at_call 32; go_must (refine (baseWithin_any _ _ _ _).mono ?_); rintro e w' ⟨rfl, rfl⟩)
      clear h7n h7d h1 h2 h3
      have r0 : Blk (w.alloc (.cells #[.int .i64 m, .int .i64 l, .int .i64 r, .slice A n c] 101)) w.heap.size 101 #[.int .i64 m, .int .i64 l, .int .i64 r, .slice A n c] := Blk.newAt rfl
      go_loopw [3] (fun i wr => ∃ k : Nat, k ≤ n ∧ i = .int .i64 (k : Int) ∧ E = (scan (afterErr xs) xs.length k).2 ∧ Blk wr w.heap.size 101 #[.int .i64 m, .int .i64 l, .int .i64 r, .slice A n c] ∧ Below w.heap.size w wr) (fun i _ => n - (intOf i).toNat)
      case atStart => exact ⟨0, Nat.zero_le _, rfl, HTE.out, r0, pa pr⟩
      case round =>
        obtain ⟨k, hk, rfl, hf, q0, hq⟩ := hrel
        clear r0
        have c3 : wr.cell? ⟨w.heap.size, 3, none⟩ = some (.slice A n c) := q0.cellAt 3 rfl
        have z0 := q0.lt
        by_cases hlt : k < n
        · obtain ⟨b, off, hA, hbB, hcell⟩ := (HR.out.below (hq.mono hB)).at_ (k := k) (by rw [HN.out]; exact hlt)
          subst hA
          have hbw := Nat.lt_of_lt_of_le hbB (Nat.le_trans hB hq.size)
          have d0 := hcell k (by rw [HN.out]; exact hlt)
          have HF := Lib.hid (show E = (if afterErr xs k = 0 then scan (afterErr xs) xs.length (k + 1) else (k, afterErr xs k)).2 by rw [hf, scan_step (by rw [HN.out]; exact hlt)])
          have HE := Lib.hid (show afterErr xs k = firstV [unlessV (withinB (xs.getD k 0) 0 6) 2, unlessV (decide (k = 0) || decide (xs.getD (k - 1) 0 < xs.getD k 0)) 9] from rfl)
          have i0 : (0 : Int) ≤ (k : Int) := by omega
          have i2 : (k : Int) < (n : Int) := by omega
          have HQ0 := Lib.hid q0
          by_cases hk0 : k = 0
          · subst hk0
            simp only [Nat.add_zero] at d0
            clear hcell hf q0
            generalize xs.getD 0 0 = x at *
            cases hwx : withinB x 0 6 with
            | false =>
              have HR4 := Lib.hid (show E = 2 by
                have h4 : afterErr xs 0 = 2 := by rw [HE.out, hwx]; rfl
                rw [HF.out, h4]; rfl)
              go_wp2_with (go_at_call 32; go_must (refine (baseWithin_any _ _ _ _).mono ?_); rintro e w' ⟨rfl, rfl⟩)
              go_ret
              exact ⟨ret_int HR4.out.symm, hq⟩
            | true =>
              have HR4 := Lib.hid (show E = (scan (afterErr xs) xs.length (0 + 1)).2 by
                have h4 : afterErr xs 0 = 0 := by rw [HE.out, hwx]; rfl
                rw [HF.out, h4]; rfl)
              go_wp2_with (go_at_call 32; go_must (refine (baseWithin_any _ _ _ _).mono ?_); rintro e w' ⟨rfl, rfl⟩)
              go_quiet (fail)
              have hb1 : Below wr.heap.size wr (wr.drewN nq) := below_drewN' (Below.refl _ _) nq
              go_wp2
              go_roundw
              case rel => exact ⟨0 + 1, by omega, by go_num, HR4.out, HQ0.out.past hb1, pt hq hb1⟩
              case measure => simp [intOf]; omega
          · have d1 := hcell (k - 1) (by rw [HN.out]; omega)
            have j0 : (0 : Int) ≤ (k : Int) - 1 := by omega
            have j1 : (k : Int) - 1 < (n : Int) := by omega
            have j2 : ((k : Int) - 1).toNat = k - 1 := by omega
            have j3 : IntKind.i64.wrap ((k : Int) - 1) = (k : Int) - 1 := IntWalk.i64_in _ (by omega)
            have j4 : decide ((0 : Int) < (k : Int)) = true := decide_eq_true (by omega)
            have j5 : decide (0 < k) = true := decide_eq_true (by omega)
            have j6 : 0 < k := by omega
            have hdk : decide (k = 0) = false := decide_eq_false hk0
            clear hcell hf q0
            generalize xs.getD k 0 = x at *
            generalize xs.getD (k - 1) 0 = y at *
            cases hwx : withinB x 0 6 with
            | false =>
              have HR4 := Lib.hid (show E = 2 by
                have h4 : afterErr xs k = 2 := by rw [HE.out, hwx]; rfl
                rw [HF.out, h4]; rfl)
              clear d1 j0 j1 j2 j3 j4 j5 j6 hdk
              go_wp2_with (go_at_call 32; go_must (refine (baseWithin_any _ _ _ _).mono ?_); rintro e w' ⟨rfl, rfl⟩)
              go_ret
              exact ⟨ret_int HR4.out.symm, hq⟩
            | true =>
              by_cases hxy : x ≤ y
              · have HR4 := Lib.hid (show E = 9 by
                  have h4 : afterErr xs k = 9 := by rw [HE.out, hwx, hdk, decide_eq_false (show ¬ y < x by omega)]; rfl
                  rw [HF.out, h4]; rfl)
                have hd : decide (x ≤ y) = true := decide_eq_true hxy
                clear hdk
                go_wp2_with (go_at_call 32; go_must (refine (baseWithin_any _ _ _ _).mono ?_); rintro e w' ⟨rfl, rfl⟩)
                go_quiet (fail)
                have hb1 : Below wr.heap.size wr (wr.drewN nq) := below_drewN' (Below.refl _ _) nq
                go_wp2
                go_ret
                exact ⟨ret_int HR4.out.symm, pt hq hb1⟩
              · have HR4 := Lib.hid (show E = (scan (afterErr xs) xs.length (k + 1)).2 by
                  have h4 : afterErr xs k = 0 := by rw [HE.out, hwx, hdk, decide_eq_true (show y < x by omega)]; rfl
                  rw [HF.out, h4]; rfl)
                have hd : decide (x ≤ y) = false := decide_eq_false hxy
                clear hdk
                go_wp2_with (go_at_call 32; go_must (refine (baseWithin_any _ _ _ _).mono ?_); rintro e w' ⟨rfl, rfl⟩)
                go_quiet (fail)
                have hb1 : Below wr.heap.size wr (wr.drewN nq) := below_drewN' (Below.refl _ _) nq
                go_wp2
                go_roundw
                case rel => exact ⟨k + 1, by omega, by go_num, HR4.out, HQ0.out.past hb1, pt hq hb1⟩
                case measure => simp [intOf]; omega
        · have HF := Lib.hid (show E = 0 by rw [hf, scan_end (by have := HN.out; omega)])
          clear hf
          go_wp2
          go_ret
          exact ⟨ret_int HF.out.symm, hq⟩

end Go.Proofs.Ytlgioldmjohhlaa
