/- Contracts: greatest common divisors, lowest terms, remainders: the program's and the specification's.
Contracts: the error of a phasor, of a fraction; picking a part; the currents of the document's example (two sources of 12 volts, impedances 1 and 2, a load of 3). -/
import Derived.Test.YtpdkbhjcpddnpaaGreatDoorOc3
import Derived.Deep.QuietTactic

section
namespace Go.Proofs.YtpdkbhjcpddnpaaGreatDoor
open Go.RowKit
attribute [local go_sem ↓] Go.wp_at_zero Go.wp_at_succ

theorem tmod_sm {a b m : Int} (h : Sm m b) (_hm : 0 ≤ m) (ha : Sm m a) : Sm m (a.tmod b) := by
  unfold Sm at *
  by_cases hb : b = 0
  · subst hb; simpa [Int.tmod_zero] using ha
  · have h1 := Int.natAbs_tmod a b
    have h2 : a.natAbs % b.natAbs < b.natAbs := Nat.mod_lt _ (by omega)
    omega

set_option maxHeartbeats 1000000 in
theorem divisor_any (a b : Int) (ha : Sm 4000000000000000000 a) (hb : Sm 4000000000000000000 b) (w : World) :
    Calls Tryz.prog 90 #[.int .i64 a, .int .i64 b] w fun e w' => e = .returned (.int .i64 (gcdI a b)) ∧ Below w.heap.size w w' := by
  go_enter Tryz.func90, Tryz.ntmps90
  go_wp2
  go_loopw [0, 1] (fun x y wr => ∃ a' b' : Int, x = .int .i64 a' ∧ y = .int .i64 b' ∧ Sm 4000000000000000000 a' ∧ Sm 4000000000000000000 b' ∧ gcdI a b = gcdI a' b' ∧ Below w.heap.size w wr) (fun _ y _ => (intOf y).natAbs)
  case atStart => exact ⟨a, b, rfl, rfl, ha, hb, rfl, pr⟩
  case round =>
    obtain ⟨a', b', rfl, rfl, h1, h2, hg, hS⟩ := hrel
    have HG := Lib.hid hg
    have HS := Lib.hid hS
    have H1 := Lib.hid h1
    have H2 := Lib.hid h2
    clear hg hS ha hb
    unfold Sm at h1 h2
    by_cases h0 : b' = 0
    · subst h0
      go_wp2
      all_goals
        go_ret
        refine ⟨ret_int ?_, HS.out⟩
        rw [HG.out, gcd_end]
        first | omega | (split <;> omega)
    · have hm := tmod_sm H2.out (by decide) H1.out
      have hlt : (a'.tmod b').natAbs < b'.natAbs := by
        rw [Int.natAbs_tmod]; exact Nat.mod_lt _ (by omega)
      have hm2 := hm
      unfold Sm at hm2
      have hw : IntKind.i64.wrap (a'.tmod b') = a'.tmod b' := IntWalk.i64_in _ (by omega)
      have hw2 : (b' != 0) = true := by simpa using h0
      have hw3 : (b' == 0) = false := by simpa using h0
      go_wp2
      go_quiet (fail)
      go_wp2
      go_roundw
      case rel => exact ⟨b', a'.tmod b', rfl, by first | rfl | simp [hw], H2.out, hm, HG.out.trans (gcd_step a' b').symm, by first | exact HS.out | exact pd HS.out | exact below_drewN' HS.out _⟩
      case measure => first | exact hlt | (simp only [intOf]; rw [hw]; exact hlt) | (simp only [intOf, hw]; exact hlt)

theorem gcd_sm {a b : Int} (hb : Sm 4000000000000000000 b) (h0 : b ≠ 0) : 0 < gcdI a b ∧ gcdI a b ≤ 4000000000000000000 := by
  refine ⟨gcd_pos h0, ?_⟩
  have h := Int.gcd_le_right a (b := b) 
  unfold gcdI Sm at *
  have h1 : Int.gcd a b ≤ b.natAbs := Nat.le_of_dvd (by omega) (Int.gcd_dvd_natAbs_right a b)
  omega
theorem tdiv_sm {a b m : Int} (h : Sm m a) (hm : 0 ≤ m) : Sm m (a.tdiv b) := by
  unfold Sm at *
  have h1 := Int.natAbs_tdiv a b
  have h2 : (a.tdiv b).natAbs ≤ a.natAbs := by rw [h1]; exact Nat.div_le_self _ _
  clear h1
  omega

set_option maxHeartbeats 1000000 in
set_option maxRecDepth 100000 in
theorem lowest_any (a b : Int) (ha : Sm 4000000000000000000 a) (hb : Sm 4000000000000000000 b) (h0 : b ≠ 0) (w : World) :
    Calls Tryz.prog 43 #[.int .i64 a, .int .i64 b] w fun e w' => e = .returned (.agg #[.int .i64 (a.tdiv (gcdI a b)), .int .i64 (b.tdiv (gcdI a b))]) ∧ Below w.heap.size w w' := by
  obtain ⟨g1, g2⟩ := gcd_sm (a := a) hb h0
  have d1 := tdiv_sm (b := gcdI a b) ha (by decide)
  have d2 := tdiv_sm (b := gcdI a b) hb (by decide)
  have HC := Lib.hid (divisor_any a b ha hb)
  generalize gcdI a b = g at *
  unfold Sm at d1 d2
  have w1 : IntKind.i64.wrap (a.tdiv g) = a.tdiv g := IntWalk.i64_in _ (by omega)
  have w2 : IntKind.i64.wrap (b.tdiv g) = b.tdiv g := IntWalk.i64_in _ (by omega)
  have hg : (g == 0) = false := by simp; omega
  have hg2 : ¬ g = 0 := by omega
  clear ha hb d1 d2
  go_enter Tryz.func43, Tryz.ntmps43
  go_wp2_with (go_at_call 90; refine (HC.out _).mono ?_; rintro e w1 ⟨rfl, hb1⟩)
  have R1 : Blk w1 w.heap.size 59 #[.int .i64 0, .int .i64 0] := (Blk.newAt rfl).past hb1
  have S1 := pt (pa (o := .cells #[.int .i64 0, .int .i64 0] 59) pr) hb1
  have rl := R1.lt
  have hb9 := hb1
  clear hb1
  refine region_below 7 follows_mixed (by kernel_rfl) ?_
  intro C hC
  simp only [List.take_succ_cons, List.take_zero, List.drop_succ_cons, List.drop_zero]
  repeat (first
    | ((with_reducible refine quiet_plain rfl (fun K hK => ?_)); (focus (apply quiet_val; (focus (intro w' hw; obtain ⟨hcq, hfq⟩ := bcell ((hC.out _).1 hw); go_simp; (first | done | rfl))); (simp only [Act.put, List.setIfInBounds_toArray, List.set_cons_succ, List.set_cons_zero]); (with_reducible refine hK _ ?_); clear hK K)))
    | ((with_reducible refine quiet_skip ?_ ?_); (focus (first | (simp [Region.wanted, yielded]; done) | (simp [Region.wanted, yielded, undef]; done))); simp only [Act.put, List.setIfInBounds_toArray, List.set_cons_succ, List.set_cons_zero])
    | ((with_reducible refine quiet_go ?_ (fun K hK => ?_)); (focus (first | (simp [Region.wanted, yielded]; done) | (simp [Region.wanted, yielded, undef]; done))); (focus (apply quiet_val; (focus (intro w' hw; obtain ⟨hcq, hfq⟩ := bcell ((hC.out _).1 hw); go_simp; (first | done | rfl))); (simp only [Act.put, List.setIfInBounds_toArray, List.set_cons_succ, List.set_cons_zero]); (with_reducible refine hK _ ?_); clear hK K))))
  refine wpQuiet_nil ?_
  intro w1 hb1
  replace hb1 := (hC.out _).1 hb1
  clear hC C
  obtain ⟨hc1, hf1⟩ := bcell hb1
  have R2 := R1.past hb1
  have S2 := pt S1 hb1
  have c0 := R2.cellAt 0 rfl
  have c1 := R2.cellAt 1 rfl
  have f0 := R2.frozen 0
  have f1 := R2.frozen 1
  have rl2 := R2.lt
  clear hc1 hf1 hb1
  go_wp2
  exact bodyPost_ret (v := .agg #[.int .i64 (a.tdiv g), .int .i64 (b.tdiv g)]) (by simp [results, Tryz.results43, go_sem, c0, c1]) rfl ⟨rfl, ps (ps S2 (by simp)) (by simp)⟩

end Go.Proofs.YtpdkbhjcpddnpaaGreatDoor
end

section
namespace Go.Proofs.YtpdkbhjcpddnpaaGreatDoor
open Go.RowKit
attribute [local go_sem ↓] Go.wp_at_zero Go.wp_at_succ

def phE (p q : Int) : Int := unlessV (withinB p (-1000000) 1000000 && withinB q (-1000000) 1000000) 2
theorem phE_sm {p q : Int} (h : phE p q = 0) : Sm 1000000 p ∧ Sm 1000000 q := by
  have h1 := (unless_ne (by decide)).1 h
  simp only [withinB, Bool.and_eq_true, decide_eq_true_eq] at h1
  exact ⟨h1.1, h1.2⟩
set_option maxHeartbeats 1000000 in
theorem phasorErr_any (p q : Int) (w : World) :
    Calls Tryz.prog 84 #[.agg #[.int .i64 p, .int .i64 q]] w fun e w' => e = .returned (.int .i64 (phE p q)) ∧ Below w.heap.size w w' := by
  have c1 := fun w => small_any p 1000000 (by decide) (by decide) w
  have c2 := fun w => small_any q 1000000 (by decide) (by decide) w
  have hv : unlessV (withinB p (-1000000) 1000000 && withinB q (-1000000) 1000000) 2 = phE p q := rfl
  generalize phE p q = E at *
  have C1 := Lib.hid c1
  have C2 := Lib.hid c2
  clear c1 c2
  generalize withinB p (-1000000) 1000000 = a at *
  generalize withinB q (-1000000) 1000000 = b at *
  cases a
  all_goals
    simp only [Bool.false_and, Bool.true_and] at hv
    subst hv
    go_enter Tryz.func84, Tryz.ntmps84
    go_wp2_with (first
      | (go_at_call 44; (first | (with_reducible refine (C1.out _).mono ?_) | (with_reducible refine (C2.out _).mono ?_)); rintro e w' ⟨rfl, rfl⟩)
      | (go_at_call 46; refine (unless_any _ _ _).mono ?_; rintro e w' ⟨rfl, rfl⟩))
    go_ret
    exact ⟨rfl, pa pr⟩

theorem part_1 (p q : Int) (w : World) :
    Calls Tryz.prog 86 #[.agg #[.int .i64 p, .int .i64 q]] w fun e w' => e = .returned (.int .i64 p) ∧ Below w.heap.size w w' := by
  go_enter Tryz.func86, Tryz.ntmps86
  go_wp2
  go_ret
  exact ⟨rfl, pa pr⟩
theorem part_3 (p q : Int) (w : World) :
    Calls Tryz.prog 88 #[.agg #[.int .i64 p, .int .i64 q]] w fun e w' => e = .returned (.int .i64 q) ∧ Below w.heap.size w w' := by
  go_enter Tryz.func88, Tryz.ntmps88
  go_wp2
  go_ret
  exact ⟨rfl, pa pr⟩
theorem part_2 (b o : Nat) (w : World) :
    Calls Tryz.prog 87 #[.pointer (some ⟨b, o, none⟩)] w fun e w' => e = .returned (.pointer (some ⟨b, o + 0, none⟩)) ∧ w = w' := by
  go_enter Tryz.func87, Tryz.ntmps87
  go_wp2
  go_ret
  exact ⟨rfl, rfl⟩
theorem part_4 (b o : Nat) (w : World) :
    Calls Tryz.prog 89 #[.pointer (some ⟨b, o, none⟩)] w fun e w' => e = .returned (.pointer (some ⟨b, o + 2, none⟩)) ∧ w = w' := by
  go_enter Tryz.func89, Tryz.ntmps89
  go_wp2
  go_ret
  exact ⟨rfl, rfl⟩

def partsV : Value := .agg #[.func (.func 86) #[] #[], .func (.func 87) #[] #[], .func (.func 88) #[] #[], .func (.func 89) #[] #[]]
theorem parts_size : (Tryz.prog.info? 109).map (·.size) = some 4 := by kernel_rfl
theorem part_size : (Tryz.prog.info? 108).map (·.size) = some 2 := by kernel_rfl
theorem parts_any (w : World) :
    Calls Tryz.prog 41 #[] w fun e w' => e = .returned (.agg #[.func (.func 86) #[] #[], .func (.func 87) #[] #[], .func (.func 88) #[] #[], .func (.func 89) #[] #[]]) ∧ Below w.heap.size w w' := by
  have R0 : Blk (w.alloc (.cells #[.nilFunc, .nilFunc, .nilFunc, .nilFunc] 109)) w.heap.size 109 #[.nilFunc, .nilFunc, .nilFunc, .nilFunc] := Blk.new _ _ _
  have S0 : Below w.heap.size w (w.alloc (.cells #[.nilFunc, .nilFunc, .nilFunc, .nilFunc] 109)) := pa pr
  go_enter Tryz.func41, Tryz.ntmps41
  go_wp2_with ((with_reducible refine store_blk (T := 109) (x := .tmp 0) (y := .tmp 3) (vs := #[.func (.func 86) #[] #[], .func (.func 87) #[] #[], .func (.func 88) #[] #[], .func (.func 89) #[] #[]]) R0 ?_ ?_ ?_ ?_ ?_ ?_); (focus rfl); (focus exact parts_size); (focus (simp [Value.oneCell']; done)); (focus rfl); (focus rfl); intro WF RF PF)
  have g0 := RF.cellAt 0 rfl
  have g1 := RF.cellAt 1 rfl
  have g2 := RF.cellAt 2 rfl
  have g3 := RF.cellAt 3 rfl
  exact bodyPost_ret (v := .agg #[.func (.func 86) #[] #[], .func (.func 87) #[] #[], .func (.func 88) #[] #[], .func (.func 89) #[] #[]]) (by simp [results, Tryz.results41, go_sem, g0, g1, g2, g3]) rfl ⟨rfl, pp S0 PF (by omega)⟩

def lowestB (n d : Int) : Bool := decide (0 < d) && decide (gcdI n d = 1)
set_option maxHeartbeats 1000000 in
theorem isLowest_any (n d : Int) (hn : Sm 4000000000000000000 n) (hd : Sm 4000000000000000000 d) (w : World) :
    Calls Tryz.prog 85 #[.agg #[.int .i64 n, .int .i64 d]] w fun e w' => e = .returned (.bool (lowestB n d)) ∧ Below w.heap.size w w' := by
  have HD := Lib.hid (divisor_any n d hn hd)
  have hv : lowestB n d = (decide (0 < d) && decide (gcdI n d = 1)) := rfl
  generalize lowestB n d = X at *
  generalize gcdI n d = g at *
  clear hn hd
  by_cases h : 0 < d
  · have HV := Lib.hid (show X = decide (g = 1) by rw [hv]; simp [h])
    clear hv
    go_enter Tryz.func85, Tryz.ntmps85
    go_wp2_with (go_at_call 90; refine (HD.out _).mono ?_; rintro e w1 ⟨rfl, hb1⟩)
    go_ret
    refine ⟨ret_bool ?_, pt (pa pr) hb1⟩
    rw [HV.out]
    first | rfl | (by_cases hg : g = 1 <;> simp [hg])
  · have HV := Lib.hid (show X = false by rw [hv]; simp [h])
    clear hv
    go_enter Tryz.func85, Tryz.ntmps85
    go_wp2
    go_ret
    exact ⟨ret_bool HV.out.symm, pa pr⟩

end Go.Proofs.YtpdkbhjcpddnpaaGreatDoor
end
