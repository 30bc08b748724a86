/- Contracts: the program's check, CheckSchedule and EndOf. Plans whose lists are short. -/
import Derived.Test.YtlgioldmjohhlaaP8StartErr
namespace Go.Proofs.Ytlgioldmjohhlaa
open Go.RowKit

def rngE (ss : List Int) (i : Nat) : Int := unlessV (withinB (ss.getD i 0) 0 700000) 2
def schedV (ts : List Task) (ss : List Int) : Nat × Int :=
  if ss.length ≠ ts.length then (0, 10)
  else if (scan (rngE ss) ss.length 0).2 ≠ 0 then scan (rngE ss) ss.length 0
  else scan (startE ts ss) ss.length 0
def outB (x : Int) : Bool := !withinB x 0 700000

theorem rng_find (ss : List Int) : ∀ (d k : Nat), ss.length - k = d → (findFrom outB ss k = -1 ∧ scan (rngE ss) ss.length k = (0, 0)) ∨ ∃ i : Nat, findFrom outB ss k = (i : Int) ∧ scan (rngE ss) ss.length k = (i, 2)
  | 0, k, hd => .inl ⟨findFrom_end _ _ _ (by omega), scan_end (by omega)⟩
  | d + 1, k, hd => by
    have hk : k < ss.length := by omega
    rw [findFrom_step outB ss k hk, scan_step hk]
    have hr : rngE ss k = if outB (ss.getD k 0) = true then 2 else 0 := by
      unfold rngE outB unlessV
      cases withinB (ss.getD k 0) 0 700000 <;> rfl
    by_cases h : outB (ss.getD k 0) = true
    · rw [if_pos h]
      refine .inr ⟨k, rfl, ?_⟩
      rw [hr, if_pos h, if_neg (by decide)]
    · rw [if_neg h]
      have h0 : rngE ss k = 0 := by rw [hr, if_neg h]
      rw [if_pos h0]
      exact rng_find ss d (k + 1) (by omega)
theorem rng_ok {ss : List Int} (h : (scan (rngE ss) ss.length 0).2 = 0) : ∀ j, j < ss.length → 0 ≤ ss.getD j 0 ∧ ss.getD j 0 ≤ 700000 := fun j hj => by
  have h1 := scan_zero h j hj
  have h2 := (unless_ne (by decide)).1 h1
  simp only [withinB, Bool.and_eq_true, decide_eq_true_eq] at h2
  exact h2

theorem check1_any (x : Int) (w : World) : Calls Try.prog 145 #[.int .i64 x] w fun e w' => e = .returned (.bool (outB x)) ∧ w = w' := by
  go_enter Try.func145, Try.ntmps145
  go_wp2_with (go_at_call 88; refine (within_any _ _ _ _).mono ?_; rintro e w' ⟨rfl, rfl⟩)
  go_ret
  exact ⟨rfl, rfl⟩

set_option maxHeartbeats 400000 in
theorem indexFunc_check (B : Nat) (A : Option Addr) (n c : Nat) (xs : List Int) (w : World) (hr : IntsIn B w A xs) (hn : xs.length = n) (hm : n ≤ 1000) :
    Calls Try.prog 144 #[.slice A n c, .func (.func 145) #[] #[]] w fun e w' => e = .returned (.int .i64 (findFrom outB xs 0)) ∧ w = w' := by
  subst hn
  go_enter Try.func144, Try.ntmps144
  go_wp2
  go_loop [8] (fun i => ∃ k : Nat, k ≤ xs.length ∧ i = .int .i64 k ∧ findFrom outB xs 0 = findFrom outB xs k) (fun i => xs.length - (intOf i).toNat)
  case atStart => exact ⟨0, Nat.zero_le _, rfl, rfl⟩
  case round =>
    obtain ⟨k, hk, rfl, hf⟩ := hrel
    by_cases hlt : k < xs.length
    · obtain ⟨b, off, rfl, hb, hc⟩ := hr.at_ hlt
      have hcell := hc k hlt
      have HF := Lib.hid (hf.trans (findFrom_step outB xs k hlt))
      have HCk := Lib.hid fun W => check1_any (xs.getD k 0) W
      clear hc hf hr
      generalize xs.getD k 0 = y at *
      cases hxy : outB y with
      | false =>
        rw [hxy] at HCk
        have HX := Lib.hid hxy
        clear hxy
        go_wp2_with (go_at_call 145; go_must (refine (HCk.out _).mono ?_); rintro e w' ⟨rfl, rfl⟩)
        go_round
        case rel => exact ⟨k + 1, by omega, by go_num, by rw [HF.out, HX.out]; simp⟩
        case measure => simp [intOf]; omega
      | true =>
        rw [hxy] at HCk
        have HX := Lib.hid hxy
        clear hxy
        go_wp2_with (go_at_call 145; go_must (refine (HCk.out _).mono ?_); rintro e w' ⟨rfl, rfl⟩)
        go_ret
        exact ⟨ret_int (by rw [HF.out, HX.out]; simp), rfl⟩
    · have HF := Lib.hid (show findFrom outB xs 0 = -1 by rw [hf]; exact findFrom_end _ _ _ (by omega))
      clear hf
      go_wp2
      go_ret
      exact ⟨ret_int HF.out.symm, rfl⟩

set_option maxHeartbeats 4000000 in
set_option maxRecDepth 100000 in
theorem sched_any (B : Nat) (ts : List Task) (ss : List Int) (A A2 : Option Addr) (c c2 : Nat) (m : Int) (w : World) (hr : TasksIn B w A ts) (hr2 : IntsIn B w A2 ss) (hB : B ≤ w.heap.size) (hl : LenOk ts) (hp : PlanOk ts) (hm : ss.length ≤ 1000) :
    Calls Try.prog 119 #[.agg #[.int .i64 m, .slice A ts.length c], .slice A2 ss.length c2] w fun e w' => e = .returned (.tuple #[.int .i64 ((schedV ts ss).1 : Int), .int .i64 (schedV ts ss).2]) ∧ Below w.heap.size w w' := by
  have h7 := hp.1
  have HR := Lib.hid hr
  have HR2 := Lib.hid hr2
  have HV := Lib.hid (show schedV ts ss = if ss.length ≠ ts.length then (0, 10) else if (scan (rngE ss) ss.length 0).2 ≠ 0 then scan (rngE ss) ss.length 0 else scan (startE ts ss) ss.length 0 from rfl)
  generalize schedV ts ss = V at *
  have HP := Lib.hid hp
  have HL := Lib.hid hl
  have r0 : Blk (w.alloc (.cells #[.int .i64 m, .slice A ts.length c] 107)) w.heap.size 107 #[.int .i64 m, .slice A ts.length c] := Blk.newAt rfl
  have R0 := Lib.hid r0
  clear hr hr2 hp hl r0
  by_cases hn : ss.length = ts.length
  · have HV2 := Lib.hid (show V = if (scan (rngE ss) ss.length 0).2 ≠ 0 then scan (rngE ss) ss.length 0 else scan (startE ts ss) ss.length 0 by rw [HV.out, if_neg (by simpa using hn)])
    have HN := Lib.hid hn
    have hne : ((ss.length : Int) != (ts.length : Int)) = false := by simp [hn]
    have HIx := Lib.hid (indexFunc_check B A2 ss.length c2 ss (w.alloc (.cells #[.int .i64 m, .slice A ts.length c] 107)) (HR2.out.below ((pa pr).mono hB)) rfl hm)
    have hfind := rng_find ss ss.length 0 rfl
    clear HV hn
    rcases hfind with ⟨h1, h2⟩ | ⟨i, h1, h2⟩
    · rw [h1] at HIx
      have HV3 := Lib.hid (show V = scan (startE ts ss) ss.length 0 by rw [HV2.out, h2]; rfl)
      have HSo := Lib.hid (show StartsOk ts ss from ⟨HN.out, rng_ok (by rw [h2])⟩)
      clear h1 h2
      go_enter Try.func119, Try.ntmps119
      go_wp2_with (go_at_call 144; go_must (refine HIx.out.mono ?_); rintro e w' ⟨rfl, rfl⟩)
      clear hne
      go_loopw [23] (fun iv wr => ∃ i : Nat, iv = .int .i64 (i : Int) ∧ i ≤ ss.length ∧ V = scan (startE ts ss) ss.length i ∧ Blk wr w.heap.size 107 #[.int .i64 m, .slice A ts.length c] ∧ Below w.heap.size w wr) (fun iv _ => ss.length - (intOf iv).toNat)
      case atStart => exact ⟨0, rfl, Nat.zero_le _, HV3.out, R0.out, pa pr⟩
      case round =>
        obtain ⟨i, rfl, hi, hf, k0, hq⟩ := hrel
        have e0 : wr.cell? ⟨w.heap.size, 0, none⟩ = some (.int .i64 m) := k0.cellAt 0 rfl
        have e1 : wr.cell? ⟨w.heap.size, 1, none⟩ = some (.slice A ts.length c) := k0.cellAt 1 rfl
        have x0 := k0.lt
        have K0 := Lib.hid k0
        have HQ := Lib.hid hq
        clear k0 hq
        by_cases hlt : i < ss.length
        · have HF := Lib.hid (hf.trans (scan_step hlt))
          have HSe := Lib.hid (startErr_any B ts ss A A2 c c2 m i wr (HR.out.below (HQ.out.mono hB)) (HR2.out.below (HQ.out.mono hB)) (Nat.le_trans hB HQ.out.size) HL.out HP.out HSo.out (by have := HN.out; omega))
          clear hf
          by_cases hz : startE ts ss i = 0
          · have HV5 := Lib.hid (show V = scan (startE ts ss) ss.length (i + 1) by rw [HF.out, if_pos hz])
            rw [hz] at HSe
            clear hz
            go_wp2_with (go_at_call 146; go_must (refine HSe.out.mono ?_); rintro e w1 ⟨rfl, hb1⟩)
            go_roundw
            case rel => exact ⟨i + 1, by go_num, by omega, HV5.out, K0.out.past hb1, pt HQ.out hb1⟩
            case measure => simp [intOf]; omega
          · have HV5 := Lib.hid (show V = (i, startE ts ss i) by rw [HF.out, if_neg hz])
            have hz2 : (startE ts ss i != 0) = true := by simpa using hz
            clear hz HF
            generalize startE ts ss i = E at *
            go_wp2_with (go_at_call 146; go_must (refine HSe.out.mono ?_); rintro e w1 ⟨rfl, hb1⟩)
            go_ret2
            exact ⟨ret_ii (by rw [HV5.out]) (by rw [HV5.out]), pt HQ.out hb1⟩
        · have HV5 := Lib.hid (show V = (0, 0) by rw [hf]; exact scan_end (by omega))
          clear hf
          go_wp2
          go_ret2
          exact ⟨ret_ii (by rw [HV5.out]; rfl) (by rw [HV5.out]), HQ.out⟩
    · rw [h1] at HIx
      have HV3 := Lib.hid (show V = (i, 2) by rw [HV2.out, h2]; rfl)
      have i0 : (0 : Int) ≤ (i : Int) := by omega
      clear h1 h2
      go_enter Try.func119, Try.ntmps119
      go_wp2_with (go_at_call 144; go_must (refine HIx.out.mono ?_); rintro e w' ⟨rfl, rfl⟩)
      go_ret2
      exact ⟨ret_ii (by rw [HV3.out]) (by rw [HV3.out]), pa pr⟩
  · have HV5 := Lib.hid (show V = (0, 10) by rw [HV.out, if_pos hn])
    have hne : ((ss.length : Int) != (ts.length : Int)) = true := by rw [bne_iff_ne]; omega
    clear HV hn
    go_enter Try.func119, Try.ntmps119
    go_wp2
    go_ret2
    exact ⟨ret_ii (by rw [HV5.out]; rfl) (by rw [HV5.out]), pa pr⟩

end Go.Proofs.Ytlgioldmjohhlaa
