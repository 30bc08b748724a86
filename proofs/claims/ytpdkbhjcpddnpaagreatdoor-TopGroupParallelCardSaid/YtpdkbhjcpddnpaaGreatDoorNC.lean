/- Contracts: the specification's greatest common divisor and lowest terms; the ratio squares of a unit, both.
Contracts: the ratio square of a unit, the program's and the specification's; the error of a unit. -/
import Derived.Test.YtpdkbhjcpddnpaaGreatDoorN8
import Derived.Test.YtpdkbhjcpddnpaaGreatDoorN9
import Derived.Test.YtpdkbhjcpddnpaaGreatDoorNB
import Derived.Test.YtpdkbhjcpddnpaaGreatDoorN7

section
namespace Go.Proofs.YtpdkbhjcpddnpaaGreatDoor
open Go.RowKit
attribute [local go_sem ↓] Go.wp_at_zero Go.wp_at_succ

set_option maxHeartbeats 1000000 in
theorem refGcd_any (a b : Int) (ha : Sm 4000000000000000000 a) (hb : Sm 4000000000000000000 b) (w : World) :
    Calls Tryz.prog 59 #[.int .i64 a, .int .i64 b] w fun e w' => e = .returned (.int .i64 (gcdI a b)) ∧ Below w.heap.size w w' := by
  go_enter Tryz.func59, Tryz.ntmps59
  go_wp2
  go_loopw [0, 1] (fun x y wr => ∃ a' b' : Int, x = .int .i64 a' ∧ y = .int .i64 b' ∧ Sm 4000000000000000000 a' ∧ Sm 4000000000000000000 b' ∧ gcdI a b = gcdI a' b' ∧ Below w.heap.size w wr) (fun _ y _ => (intOf y).natAbs)
  case atStart => exact ⟨a, b, rfl, rfl, ha, hb, rfl, pr⟩
  case round =>
    obtain ⟨a', b', rfl, rfl, h1, h2, hg, hS⟩ := hrel
    have HG := Lib.hid hg
    have HS := Lib.hid hS
    have H1 := Lib.hid h1
    have H2 := Lib.hid h2
    clear hg hS ha hb
    unfold Sm at h1 h2
    by_cases h0 : b' = 0
    · subst h0
      go_wp2_with (go_at_call 102; refine (size_any _ H1.out _).mono ?_; rintro e w' ⟨rfl, rfl⟩)
      go_ret
      refine ⟨ret_int ?_, HS.out⟩
      rw [HG.out, gcd_end]
    · have hm := tmod_sm H2.out (by decide) H1.out
      have hlt : (a'.tmod b').natAbs < b'.natAbs := by
        rw [Int.natAbs_tmod]; exact Nat.mod_lt _ (by omega)
      have hm2 := hm
      unfold Sm at hm2
      have hw : IntKind.i64.wrap (a'.tmod b') = a'.tmod b' := IntWalk.i64_in _ (by omega)
      have hw2 : (b' != 0) = true := by simpa using h0
      have hw3 : (b' == 0) = false := by simpa using h0
      go_wp2
      go_quiet (fail)
      go_wp2
      go_roundw
      case rel => exact ⟨b', a'.tmod b', rfl, by first | rfl | simp [hw], H2.out, hm, HG.out.trans (gcd_step a' b').symm, by first | exact HS.out | exact pd HS.out | exact below_drewN' HS.out _⟩
      case measure => first | exact hlt | (simp only [intOf]; rw [hw]; exact hlt) | (simp only [intOf, hw]; exact hlt)

end Go.Proofs.YtpdkbhjcpddnpaaGreatDoor
end

section
namespace Go.Proofs.YtpdkbhjcpddnpaaGreatDoor
open Go.RowKit
attribute [local go_sem ↓] Go.wp_at_zero Go.wp_at_succ
attribute [local go_sem] l9_at0 l9_at1 l9_at2

def sqW (k t : Int) : Int := t * t * (if k = 0 then 3 else if k = 1 then 1 else 9)
def ratN (a b : Int) : Int := a.tdiv (gcdI a b)
def ratD (a b : Int) : Int := b.tdiv (gcdI a b)
theorem sqW_range {w : Wind} (h : w.ok) : 1 ≤ sqW w.kind w.turns ∧ sqW w.kind w.turns ≤ 36000000 := by
  obtain ⟨h1, h2, h3, h4, _, _⟩ := h
  have b1 : 1 * 1 ≤ w.turns * w.turns := Int.mul_le_mul h3 h3 (by decide) (by omega)
  have b2 : w.turns * w.turns ≤ 2000 * 2000 := Int.mul_le_mul h4 h4 (by omega) (by decide)
  unfold sqW
  split
  · omega
  · split <;> omega

set_option maxHeartbeats 2000000 in
set_option maxRecDepth 100000 in
theorem ratio_any (k t s : Int) (r : Bool) (k2 t2 s2 : Int) (r2 : Bool) (n : Int) (hu : (Wind.mk k t s r).ok) (hu2 : (Wind.mk k2 t2 s2 r2).ok) (w : World) (hP : PatIn w) :
    Calls Tryz.prog 58 #[.agg #[.int .i64 k, .int .i64 t, .int .i64 s, .bool r, .int .i64 k2, .int .i64 t2, .int .i64 s2, .bool r2, .int .i64 n]] w fun e w' => e = .returned (.agg #[.int .i64 (ratN (sqW k t) (sqW k2 t2)), .int .i64 (ratD (sqW k t) (sqW k2 t2))]) ∧ Below w.heap.size w w' := by
  obtain ⟨L, hL⟩ : ∃ L, linesV ⟨k, t, s, r⟩ = L := ⟨_, rfl⟩
  obtain ⟨M, hM⟩ : ∃ L, linesV ⟨k2, t2, s2, r2⟩ = L := ⟨_, rfl⟩
  have q1 := lines_sq hu
  have q2 := lines_sq hu2
  have g1 := sqW_range hu
  have g2 := sqW_range hu2
  obtain ⟨a1, a2, a3, _⟩ := linesV_sm hu
  obtain ⟨b1, b2, b3, _⟩ := linesV_sm hu2
  rw [hL] at q1 a1 a2 a3
  rw [hM] at q2 b1 b2 b3
  unfold phP phQ at q1 q2
  dsimp only at q1 q2 g1 g2
  change _ = sqW k t at q1
  change _ = sqW k2 t2 at q2
  have HL1 := Lib.hid (lines_any k t s r hu L hL)
  have HL2 := Lib.hid (lines_any k2 t2 s2 r2 hu2 M hM)
  have HP1 := Lib.hid (linesPhasor_0 L.x.a L.x.b L.x.c L.y.a L.y.b L.y.c L.z.a L.z.b L.z.c (sm_more a1 (by decide)) (sm_more a2 (by decide)) (sm_more a3 (by decide)))
  have HP2 := Lib.hid (linesPhasor_0 M.x.a M.x.b M.x.c M.y.a M.y.b M.y.c M.z.a M.z.b M.z.c (sm_more b1 (by decide)) (sm_more b2 (by decide)) (sm_more b3 (by decide)))
  have HS1 := Lib.hid (square_any (L.x.a - L.x.b) (L.x.c - L.x.b) (by unfold Sm at *; omega) (by unfold Sm at *; omega))
  have HS2 := Lib.hid (square_any (M.x.a - M.x.b) (M.x.c - M.x.b) (by unfold Sm at *; omega) (by unfold Sm at *; omega))
  rw [q1] at HS1
  rw [q2] at HS2
  have HQ := Lib.hid (lowest_any (sqW k t) (sqW k2 t2) (by unfold Sm; omega) (by unfold Sm; omega) (by omega))
  unfold ratN ratD
  have HP := Lib.hid hP
  clear hL hM hu hu2 hP q1 q2 g1 g2 a1 a2 a3 b1 b2 b3
  generalize (sqW k t).tdiv (gcdI (sqW k t) (sqW k2 t2)) = A at *
  generalize (sqW k2 t2).tdiv (gcdI (sqW k t) (sqW k2 t2)) = B at *
  go_enter Tryz.func58, Tryz.ntmps58
  go_wp2
  refine region_below 11 follows_mixed (by kernel_rfl) ?_
  intro C hC
  simp only [List.take_succ_cons, List.take_zero, List.drop_succ_cons, List.drop_zero]
  repeat (first
    | ((with_reducible refine quiet_plain rfl (fun K hK => ?_)); (focus (apply quiet_val; (focus (intro w' hw; obtain ⟨hcq, hfq⟩ := bcell ((hC.out _).1 hw); go_simp; (first | done | rfl | (with_reducible exact call_below hC hw (HL1.out _ (HP.out.below (pt (pa (pa pr)) ((hC.out _).1 hw))))) | (with_reducible exact call_below hC hw (HL2.out _ (HP.out.below (pt (pa (pa pr)) ((hC.out _).1 hw))))) | (with_reducible exact call_below hC hw (HP1.out _)) | (with_reducible exact call_below hC hw (HP2.out _)) | (with_reducible exact call_below hC hw (HS1.out _)) | (with_reducible exact call_below hC hw (HS2.out _)) | (with_reducible exact call_below hC hw (HQ.out _))))); (simp only [Act.put, List.setIfInBounds_toArray, List.set_cons_succ, List.set_cons_zero]); (with_reducible refine hK _ ?_); clear hK K)))
    | ((with_reducible refine quiet_skip ?_ ?_); (focus (first | (simp [Region.wanted, yielded]; done) | (simp [Region.wanted, yielded, undef]; done))); simp only [Act.put, List.setIfInBounds_toArray, List.set_cons_succ, List.set_cons_zero])
    | ((with_reducible refine quiet_go ?_ (fun K hK => ?_)); (focus (first | (simp [Region.wanted, yielded]; done) | (simp [Region.wanted, yielded, undef]; done))); (focus (apply quiet_val; (focus (intro w' hw; obtain ⟨hcq, hfq⟩ := bcell ((hC.out _).1 hw); go_simp; (first | done | rfl | (with_reducible exact call_below hC hw (HL1.out _ (HP.out.below (pt (pa (pa pr)) ((hC.out _).1 hw))))) | (with_reducible exact call_below hC hw (HL2.out _ (HP.out.below (pt (pa (pa pr)) ((hC.out _).1 hw))))) | (with_reducible exact call_below hC hw (HP1.out _)) | (with_reducible exact call_below hC hw (HP2.out _)) | (with_reducible exact call_below hC hw (HS1.out _)) | (with_reducible exact call_below hC hw (HS2.out _)) | (with_reducible exact call_below hC hw (HQ.out _))))); (simp only [Act.put, List.setIfInBounds_toArray, List.set_cons_succ, List.set_cons_zero]); (with_reducible refine hK _ ?_); clear hK K))))
  refine wpQuiet_nil ?_
  intro w1 hb1
  replace hb1 := (hC.out _).1 hb1
  clear hC C
  obtain ⟨hc1, hf1⟩ := bcell hb1
  have R2 : Blk w1 (w.heap.size + 1) 59 #[.int .i64 0, .int .i64 0] := (Blk.newAt (by simp)).past hb1
  have S2 := pt (pa (pa pr)) hb1
  have c0 := R2.cellAt 0 rfl
  have c1 := R2.cellAt 1 rfl
  have f0 := R2.frozen 0
  have f1 := R2.frozen 1
  have rl2 := R2.lt
  clear hc1 hf1 hb1
  go_wp2
  exact bodyPost_ret (v := .agg #[.int .i64 A, .int .i64 B]) (by simp [results, Tryz.results58, go_sem, c0, c1]) rfl ⟨rfl, ps (ps S2 (by simp)) (by simp)⟩

set_option maxHeartbeats 2000000 in
set_option maxRecDepth 100000 in
theorem refUnitErr_any (k t s : Int) (r : Bool) (k2 t2 s2 : Int) (r2 : Bool) (n : Int) (w : World) :
    Calls Tryz.prog 28 #[.agg #[.int .i64 k, .int .i64 t, .int .i64 s, .bool r, .int .i64 k2, .int .i64 t2, .int .i64 s2, .bool r2, .int .i64 n]] w fun e w' => e = .returned (.int .i64 (unitE k t s k2 t2 s2 n)) ∧ Below w.heap.size w w' := by
  have H1 := Lib.hid (refWindingErr_any k t s r)
  have H2 := Lib.hid (refWindingErr_any k2 t2 s2 r2)
  have H3 := Lib.hid (refWithin_any n 0 100)
  have hE : unitE k t s k2 t2 s2 n = if windE k t s = 0 then (if windE k2 t2 s2 = 0 then (if withinB n 0 100 = true then 0 else 2) else windE k2 t2 s2) else windE k t s := by
    unfold unitE
    cases withinB n 0 100 <;> by_cases h1 : windE k t s = 0 <;> by_cases h2 : windE k2 t2 s2 = 0 <;> simp [firstV, unlessV, h1, h2]
  generalize unitE k t s k2 t2 s2 n = E at *
  generalize windE k t s = a at *
  generalize windE k2 t2 s2 = b at *
  generalize withinB n 0 100 = c at *
  by_cases h1 : a = 0
  · subst h1
    by_cases h2 : b = 0
    · subst h2
      cases c
      all_goals
        simp at hE
        subst hE
        go_enter Tryz.func28, Tryz.ntmps28
        go_wp2_with (first
          | (go_at_call 17; (with_reducible refine (H1.out _).mono ?_); rintro e w1 ⟨rfl, hb1⟩; have P1 : Blk w1 w.heap.size 48 #[.int .i64 k, .int .i64 t, .int .i64 s, .bool r, .int .i64 k2, .int .i64 t2, .int .i64 s2, .bool r2, .int .i64 n] := (Blk.newAt rfl).past hb1; have S1 := pt (pa pr) hb1; have p4 := P1.cellAt 4 rfl; have p5 := P1.cellAt 5 rfl; have p6 := P1.cellAt 6 rfl; have p7 := P1.cellAt 7 rfl; have pl := P1.lt)
          | (go_at_call 17; (with_reducible refine (H2.out _).mono ?_); rintro e w2 ⟨rfl, hb2⟩; have P2 := P1.past hb2; have S2 := pt S1 hb2; clear p4 p5 p6 p7 pl; have p8 := P2.cellAt 8 rfl; have pl := P2.lt)
          | (go_at_call 20; (with_reducible refine (H3.out _).mono ?_); rintro e w' ⟨rfl, rfl⟩))
        go_ret
        exact ⟨rfl, S2⟩
    · have h2' : (b == 0) = false := by simpa using h2
      have h2'' : (b != 0) = true := by simpa using h2
      rw [if_pos rfl, if_neg h2] at hE
      subst hE
      go_enter Tryz.func28, Tryz.ntmps28
      go_wp2_with (first
          | (go_at_call 17; (with_reducible refine (H1.out _).mono ?_); rintro e w1 ⟨rfl, hb1⟩; have P1 : Blk w1 w.heap.size 48 #[.int .i64 k, .int .i64 t, .int .i64 s, .bool r, .int .i64 k2, .int .i64 t2, .int .i64 s2, .bool r2, .int .i64 n] := (Blk.newAt rfl).past hb1; have S1 := pt (pa pr) hb1; have p4 := P1.cellAt 4 rfl; have p5 := P1.cellAt 5 rfl; have p6 := P1.cellAt 6 rfl; have p7 := P1.cellAt 7 rfl; have pl := P1.lt)
          | (go_at_call 17; (with_reducible refine (H2.out _).mono ?_); rintro e w2 ⟨rfl, hb2⟩; have S2 := pt S1 hb2))
      go_ret
      exact ⟨rfl, S2⟩
  · have h1' : (a == 0) = false := by simpa using h1
    have h1'' : (a != 0) = true := by simpa using h1
    rw [if_neg h1] at hE
    subst hE
    go_enter Tryz.func28, Tryz.ntmps28
    go_wp2_with (go_at_call 17; (with_reducible refine (H1.out _).mono ?_); rintro e w1 ⟨rfl, hb1⟩; have S1 := pt (pa pr) hb1)
    go_ret
    exact ⟨rfl, S1⟩

end Go.Proofs.YtpdkbhjcpddnpaaGreatDoor
end
