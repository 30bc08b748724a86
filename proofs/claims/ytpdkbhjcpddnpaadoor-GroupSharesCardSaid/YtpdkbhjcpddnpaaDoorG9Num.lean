/- Contracts: greatest common divisors, lowest terms, remainders: the program's and the specification's. -/
import Derived.Test.YtpdkbhjcpddnpaaDoorG8Wind
import Derived.Deep.QuietTactic
namespace Go.Proofs.YtpdkbhjcpddnpaaDoor
open Go.RowKit
attribute [local go_sem ↓] Go.wp_at_zero Go.wp_at_succ

theorem gcdI_comm_step (a b : Int) : gcdI b (a.tmod b) = gcdI a b := gcd_step a b
theorem max_neg_self (a : Int) (h : Sm 4000000000000000000 a) : (if a < -a then -a else a) = (a.natAbs : Int) := by unfold Sm at h; split <;> omega
theorem tmod_sm {a b m : Int} (h : Sm m b) (_hm : 0 ≤ m) (ha : Sm m a) : Sm m (a.tmod b) := by
  unfold Sm at *
  by_cases hb : b = 0
  · subst hb; simpa [Int.tmod_zero] using ha
  · have h1 := Int.natAbs_tmod a b
    have h2 : a.natAbs % b.natAbs < b.natAbs := Nat.mod_lt _ (by omega)
    omega

set_option maxHeartbeats 1000000 in
theorem divisor_any (a b : Int) (ha : Sm 4000000000000000000 a) (hb : Sm 4000000000000000000 b) (w : World) :
    Calls Tryd.prog 48 #[.int .i64 a, .int .i64 b] w fun e w' => e = .returned (.int .i64 (gcdI a b)) ∧ Below w.heap.size w w' := by
  go_enter Tryd.func48, Tryd.ntmps48
  go_wp2
  go_loopw [0, 1] (fun x y wr => ∃ a' b' : Int, x = .int .i64 a' ∧ y = .int .i64 b' ∧ Sm 4000000000000000000 a' ∧ Sm 4000000000000000000 b' ∧ gcdI a b = gcdI a' b' ∧ Below w.heap.size w wr) (fun _ y _ => (intOf y).natAbs)
  case atStart => exact ⟨a, b, rfl, rfl, ha, hb, rfl, pr⟩
  case round =>
    obtain ⟨a', b', rfl, rfl, h1, h2, hg, hS⟩ := hrel
    have HG := Lib.hid hg
    have HS := Lib.hid hS
    have H1 := Lib.hid h1
    have H2 := Lib.hid h2
    clear hg hS ha hb
    unfold Sm at h1 h2
    by_cases h0 : b' = 0
    · subst h0
      go_wp2
      all_goals
        go_ret
        refine ⟨ret_int ?_, HS.out⟩
        rw [HG.out, gcd_end]
        first | omega | (split <;> omega)
    · have hm := tmod_sm H2.out (by decide) H1.out
      have hlt : (a'.tmod b').natAbs < b'.natAbs := by
        rw [Int.natAbs_tmod]; exact Nat.mod_lt _ (by omega)
      have hm2 := hm
      unfold Sm at hm2
      have hw : IntKind.i64.wrap (a'.tmod b') = a'.tmod b' := IntWalk.i64_in _ (by omega)
      have hw2 : (b' != 0) = true := by simpa using h0
      have hw3 : (b' == 0) = false := by simpa using h0
      go_wp2
      go_quiet (fail)
      go_wp2
      go_roundw
      case rel => exact ⟨b', a'.tmod b', rfl, by first | rfl | simp [hw], H2.out, hm, HG.out.trans (gcd_step a' b').symm, by first | exact HS.out | exact pd HS.out | exact below_drewN' HS.out _⟩
      case measure => first | exact hlt | (simp only [intOf]; rw [hw]; exact hlt) | (simp only [intOf, hw]; exact hlt)

theorem gcd_sm {a b : Int} (hb : Sm 4000000000000000000 b) (h0 : b ≠ 0) : 0 < gcdI a b ∧ gcdI a b ≤ 4000000000000000000 := by
  refine ⟨gcd_pos h0, ?_⟩
  have h := Int.gcd_le_right a (b := b) 
  unfold gcdI Sm at *
  have h1 : Int.gcd a b ≤ b.natAbs := Nat.le_of_dvd (by omega) (Int.gcd_dvd_natAbs_right a b)
  omega
theorem tdiv_sm {a b m : Int} (h : Sm m a) (hm : 0 ≤ m) : Sm m (a.tdiv b) := by
  unfold Sm at *
  have h1 := Int.natAbs_tdiv a b
  have h2 : (a.tdiv b).natAbs ≤ a.natAbs := by rw [h1]; exact Nat.div_le_self _ _
  clear h1
  omega

set_option maxHeartbeats 1000000 in
set_option maxRecDepth 100000 in
theorem lowest_any (a b : Int) (ha : Sm 4000000000000000000 a) (hb : Sm 4000000000000000000 b) (h0 : b ≠ 0) (w : World) :
    Calls Tryd.prog 24 #[.int .i64 a, .int .i64 b] w fun e w' => e = .returned (.agg #[.int .i64 (a.tdiv (gcdI a b)), .int .i64 (b.tdiv (gcdI a b))]) ∧ Below w.heap.size w w' := by
  obtain ⟨g1, g2⟩ := gcd_sm (a := a) hb h0
  have d1 := tdiv_sm (b := gcdI a b) ha (by decide)
  have d2 := tdiv_sm (b := gcdI a b) hb (by decide)
  have HC := Lib.hid (divisor_any a b ha hb)
  generalize gcdI a b = g at *
  unfold Sm at d1 d2
  have w1 : IntKind.i64.wrap (a.tdiv g) = a.tdiv g := IntWalk.i64_in _ (by omega)
  have w2 : IntKind.i64.wrap (b.tdiv g) = b.tdiv g := IntWalk.i64_in _ (by omega)
  have hg : (g == 0) = false := by simp; omega
  have hg2 : ¬ g = 0 := by omega
  clear ha hb d1 d2
  go_enter Tryd.func24, Tryd.ntmps24
  go_wp2_with (go_at_call 48; refine (HC.out _).mono ?_; rintro e w1 ⟨rfl, hb1⟩)
  have R1 : Blk w1 w.heap.size 40 #[.int .i64 0, .int .i64 0] := (Blk.newAt rfl).past hb1
  have S1 := pt (pa (o := .cells #[.int .i64 0, .int .i64 0] 40) pr) hb1
  have rl := R1.lt
  have hb9 := hb1
  clear hb1
  refine region_below 7 follows_mixed (by kernel_rfl) ?_
  intro C hC
  simp only [List.take_succ_cons, List.take_zero, List.drop_succ_cons, List.drop_zero]
  repeat (first
    | ((with_reducible refine quiet_plain rfl (fun K hK => ?_)); (focus (apply quiet_val; (focus (intro w' hw; obtain ⟨hcq, hfq⟩ := bcell ((hC.out _).1 hw); go_simp; (first | done | rfl))); (simp only [Act.put, List.setIfInBounds_toArray, List.set_cons_succ, List.set_cons_zero]); (with_reducible refine hK _ ?_); clear hK K)))
    | ((with_reducible refine quiet_skip ?_ ?_); (focus (first | (simp [Region.wanted, yielded]; done) | (simp [Region.wanted, yielded, undef]; done))); simp only [Act.put, List.setIfInBounds_toArray, List.set_cons_succ, List.set_cons_zero])
    | ((with_reducible refine quiet_go ?_ (fun K hK => ?_)); (focus (first | (simp [Region.wanted, yielded]; done) | (simp [Region.wanted, yielded, undef]; done))); (focus (apply quiet_val; (focus (intro w' hw; obtain ⟨hcq, hfq⟩ := bcell ((hC.out _).1 hw); go_simp; (first | done | rfl))); (simp only [Act.put, List.setIfInBounds_toArray, List.set_cons_succ, List.set_cons_zero]); (with_reducible refine hK _ ?_); clear hK K))))
  refine wpQuiet_nil ?_
  intro w1 hb1
  replace hb1 := (hC.out _).1 hb1
  clear hC C
  obtain ⟨hc1, hf1⟩ := bcell hb1
  have R2 := R1.past hb1
  have S2 := pt S1 hb1
  have c0 := R2.cellAt 0 rfl
  have c1 := R2.cellAt 1 rfl
  have f0 := R2.frozen 0
  have f1 := R2.frozen 1
  have rl2 := R2.lt
  clear hc1 hf1 hb1
  go_wp2
  exact bodyPost_ret (v := .agg #[.int .i64 (a.tdiv g), .int .i64 (b.tdiv g)]) (by simp [results, Tryd.results24, go_sem, c0, c1]) rfl ⟨rfl, ps (ps S2 (by simp)) (by simp)⟩

end Go.Proofs.YtpdkbhjcpddnpaaDoor
