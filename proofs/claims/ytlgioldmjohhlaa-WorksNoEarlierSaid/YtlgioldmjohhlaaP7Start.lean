/- Contracts: whether a task starts before another one that it needs has ended; a slice looked through with that. Valid plans, starts in range. -/
import Derived.Test.YtlgioldmjohhlaaM6
import Derived.Test.YtlgioldmjohhlaaP4Dep
import Derived.Test.YtlgioldmjohhlaaP1Copy
namespace Go.Proofs.Ytlgioldmjohhlaa
open Go.RowKit

def endAt (ts : List Task) (ss : List Int) (n : Nat) : Int := ss.getD n 0 + (ts.getD n default).length
def earlyB (ts : List Task) (ss : List Int) (i : Nat) (n : Int) : Bool := decide (ss.getD i 0 < endAt ts ss n.toNat)
def busyB (ts : List Task) (ss : List Int) (i k : Nat) : Bool := decide ((ts.getD k default).machine = (ts.getD i default).machine) && (decide (ss.getD k 0 < endAt ts ss i) && decide (ss.getD i 0 < endAt ts ss k))
def anyBusy (ts : List Task) (ss : List Int) (i k : Nat) : Bool := (List.range k).any (busyB ts ss i)
def startE (ts : List Task) (ss : List Int) (i : Nat) : Int := firstV [unlessV (decide ((ts.getD i default).release ≤ ss.getD i 0)) 22, unlessV (!anyB (earlyB ts ss i) (afterOf ts i)) 9, unlessV (!anyBusy ts ss i i) 17]
theorem anyBusy_succ (ts : List Task) (ss : List Int) (i k : Nat) : anyBusy ts ss i (k + 1) = (anyBusy ts ss i k || busyB ts ss i k) := by
  unfold anyBusy
  rw [List.range_succ, List.any_append]
  simp

/-- Starts lie in their range. -/
def StartsOk (ts : List Task) (ss : List Int) : Prop := ss.length = ts.length ∧ ∀ j, j < ss.length → 0 ≤ ss.getD j 0 ∧ ss.getD j 0 ≤ 700000

set_option maxHeartbeats 2000000 in
set_option maxRecDepth 100000 in
theorem startErr1_any (B pb sb ib : Nat) (ts : List Task) (ss : List Int) (A A2 : Option Addr) (c c2 : Nat) (m : Int) (i n : Nat) (w : World) (hr : TasksIn B w A ts) (hr2 : IntsIn B w A2 ss) (hB : B ≤ w.heap.size) (hl : LenOk ts) (hso : StartsOk ts ss) (hi : i < ts.length) (hn : n < ts.length)
    (hp0 : w.cell? ⟨pb, 0, none⟩ = some (.int .i64 m)) (hp1 : w.cell? ⟨pb, 1, none⟩ = some (.slice A ts.length c)) (hs0 : w.cell? ⟨sb, 0, none⟩ = some (.slice A2 ss.length c2)) (hi0 : w.cell? ⟨ib, 0, none⟩ = some (.int .i64 (i : Int))) (hpl : pb < w.heap.size) (hsl : sb < w.heap.size) (hil : ib < w.heap.size) :
    Calls Try.prog 151 #[.int .i64 (n : Int), .pointer (some ⟨pb, 0, none⟩), .pointer (some ⟨sb, 0, none⟩), .pointer (some ⟨ib, 0, none⟩)] w fun e w' => e = .returned (.bool (earlyB ts ss i (n : Int))) ∧ Below w.heap.size w w' := by
  obtain ⟨hsn, hsr⟩ := hso
  have hin : i < ss.length := by omega
  have hnn : n < ss.length := by omega
  obtain ⟨b, off, hA2, hb, hc⟩ := hr2.at_ hin
  subst hA2
  have d1 := hc i hin
  have d2 := hc n hnn
  have hrn := hsr n hnn
  have hln := hl n hn
  have HV := Lib.hid (show earlyB ts ss i (n : Int) = decide (ss.getD i 0 < ss.getD n 0 + (ts.getD n default).length) from rfl)
  have hw : IntKind.i64.wrap (ss.getD n 0 + (ts.getD n default).length) = ss.getD n 0 + (ts.getD n default).length := IntWalk.i64_in _ (by omega)
  have HE := Lib.hid fun W (h : TasksIn B W A ts) hB => end_any B ts A c m n (ss.getD n 0) W h hB hn hw
  have HR := Lib.hid hr
  have n0 : (0 : Int) ≤ (n : Int) := by omega
  have n1 : (n : Int) < (ss.length : Int) := by omega
  have i0 : (0 : Int) ≤ (i : Int) := by omega
  have i1 : (i : Int) < (ss.length : Int) := by omega
  have hbw : b < w.heap.size := by omega
  clear hr hr2 hc hsr hrn hln hw hl
  generalize earlyB ts ss i (n : Int) = V at *
  generalize ss.getD i 0 = x at *
  generalize ss.getD n 0 = y at *
  generalize (ts.getD n default).length = l at *
  go_enter Try.func151, Try.ntmps151
  go_wp2
  refine region_below 11 follows_mixed (by kernel_rfl) ?_
  intro C hC
  simp only [List.take_succ_cons, List.take_zero, List.drop_succ_cons, List.drop_zero]
  repeat (first
    | ((with_reducible refine quiet_plain rfl (fun K hK => ?_)); (focus (apply quiet_val; (focus (intro w' hw; obtain ⟨hcq, hfq⟩ := bcell ((hC.out _).1 hw); go_simp; (first | done | rfl | (with_reducible exact call_below hC hw (HE.out _ (HR.out.below (((hC.out _).1 hw).mono hB)) (Nat.le_trans hB ((hC.out _).1 hw).size)))))); (simp only [Act.put, List.setIfInBounds_toArray, List.set_cons_succ, List.set_cons_zero]); (with_reducible refine hK _ ?_); clear hK K)))
    | ((with_reducible refine quiet_skip ?_ ?_); (focus (simp [Region.wanted, yielded]; done)); simp only [Act.put, List.setIfInBounds_toArray, List.set_cons_succ, List.set_cons_zero])
    | ((with_reducible refine quiet_go ?_ (fun K hK => ?_)); (focus (simp [Region.wanted, yielded]; done)); (focus (apply quiet_val; (focus (intro w' hw; obtain ⟨hcq, hfq⟩ := bcell ((hC.out _).1 hw); go_simp; (first | done | rfl | (with_reducible exact call_below hC hw (HE.out _ (HR.out.below (((hC.out _).1 hw).mono hB)) (Nat.le_trans hB ((hC.out _).1 hw).size)))))); (simp only [Act.put, List.setIfInBounds_toArray, List.set_cons_succ, List.set_cons_zero]); (with_reducible refine hK _ ?_); clear hK K))))
  refine wpQuiet_nil ?_
  intro w1 hb1
  replace hb1 := (hC.out _).1 hb1
  clear hC C
  obtain ⟨hc1, hf1⟩ := bcell hb1
  clear hc1 hf1
  go_wp2
  go_ret
  exact ⟨ret_bool HV.out.symm, hb1⟩

set_option maxHeartbeats 1000000 in
theorem indexFunc_start (B : Nat) (A : Option Addr) (n c : Nat) (xs : List Int) (p : Int → Bool) (q1 q2 q3 : Value) (w : World) (hr : IntsIn B w A xs) (hB : B ≤ w.heap.size) (hn : xs.length = n) (hm : n ≤ 1000)
    (hcb : ∀ j, j < xs.length → ∀ W, Below w.heap.size w W → Calls Try.prog 151 #[.int .i64 (xs.getD j 0), q1, q2, q3] W fun e w' => e = .returned (.bool (p (xs.getD j 0))) ∧ Below W.heap.size W w') :
    Calls Try.prog 144 #[.slice A n c, .func (.func 151) #[] #[q1, q2, q3]] w fun e w' => e = .returned (.int .i64 (findFrom p xs 0)) ∧ Below w.heap.size w w' := by
  subst hn
  have HC := Lib.hid hcb
  have HR := Lib.hid hr
  clear hcb hr
  go_enter Try.func144, Try.ntmps144
  go_wp2
  go_loopw [8] (fun i wr => ∃ k : Nat, k ≤ xs.length ∧ i = .int .i64 k ∧ findFrom p xs 0 = findFrom p xs k ∧ Below w.heap.size w wr) (fun i _ => xs.length - (intOf i).toNat)
  case atStart => exact ⟨0, Nat.zero_le _, rfl, rfl, pr⟩
  case round =>
    obtain ⟨k, hk, rfl, hf, hq⟩ := hrel
    by_cases hlt : k < xs.length
    · obtain ⟨b, off, hA, hb, hc⟩ := (HR.out.below (hq.mono hB)).at_ hlt
      subst hA
      have hcell := hc k hlt
      have hbw : b < wr.heap.size := Nat.lt_of_lt_of_le hb (Nat.le_trans hB hq.size)
      have HF := Lib.hid (hf.trans (findFrom_step p xs k hlt))
      have HCk := Lib.hid (HC.out k hlt wr hq)
      have k0 : (0 : Int) ≤ (k : Int) := by omega
      have k1 : (k : Int) < (xs.length : Int) := by omega
      clear hc hf
      generalize xs.getD k 0 = y at *
      cases hxy : p y with
      | false =>
        rw [hxy] at HCk
        have HX := Lib.hid hxy
        clear hxy
        go_wp2_with (go_at_call 151; go_must (refine HCk.out.mono ?_); rintro e w1 ⟨rfl, hb1⟩)
        go_roundw
        case rel => exact ⟨k + 1, by omega, by go_num, by rw [HF.out, HX.out]; simp, pt hq hb1⟩
        case measure => simp [intOf]; omega
      | true =>
        rw [hxy] at HCk
        have HX := Lib.hid hxy
        clear hxy
        go_wp2_with (go_at_call 151; go_must (refine HCk.out.mono ?_); rintro e w1 ⟨rfl, hb1⟩)
        go_ret
        exact ⟨ret_int (by rw [HF.out, HX.out]; simp), pt hq hb1⟩
    · have HF := Lib.hid (show findFrom p xs 0 = -1 by rw [hf]; exact findFrom_end _ _ _ (by omega))
      clear hf
      go_wp2
      go_ret
      exact ⟨ret_int HF.out.symm, hq⟩

theorem containsFunc_start (B : Nat) (A : Option Addr) (n c : Nat) (xs : List Int) (p : Int → Bool) (q1 q2 q3 : Value) (w : World) (hr : IntsIn B w A xs) (hB : B ≤ w.heap.size) (hn : xs.length = n) (hm : n ≤ 1000)
    (hcb : ∀ j, j < xs.length → ∀ W, Below w.heap.size w W → Calls Try.prog 151 #[.int .i64 (xs.getD j 0), q1, q2, q3] W fun e w' => e = .returned (.bool (p (xs.getD j 0))) ∧ Below W.heap.size W w') :
    Calls Try.prog 123 #[.slice A n c, .func (.func 151) #[] #[q1, q2, q3]] w fun e w' => e = .returned (.bool (anyB p xs)) ∧ Below w.heap.size w w' := by
  have H := Lib.hid (findFrom_any p xs)
  have HI := Lib.hid (indexFunc_start B A n c xs p q1 q2 q3 w hr hB hn hm hcb)
  clear hcb hr hn
  go_enter Try.func123, Try.ntmps123
  go_wp2_with (go_at_call 144; go_must (refine HI.out.mono ?_); rintro e w1 ⟨rfl, hb1⟩)
  go_ret
  exact ⟨ret_bool H.out, hb1⟩

end Go.Proofs.Ytlgioldmjohhlaa
