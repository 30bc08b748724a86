/- Contract of the specification's IsNear.
Contracts: bothErr, MayRun, the specification's PercentErr and MayRun. -/
import Derived.Test.YtpdkbhjcpddnpaaGreatDoorNP
import Derived.Test.YtpdkbhjcpddnpaaGreatDoorN6

section
namespace Go.Proofs.YtpdkbhjcpddnpaaGreatDoor
open Go.RowKit
attribute [local go_sem ↓] Go.wp_at_zero Go.wp_at_succ

end Go.Proofs.YtpdkbhjcpddnpaaGreatDoor
end

section
namespace Go.Proofs.YtpdkbhjcpddnpaaGreatDoor
open Go.RowKit
attribute [local go_sem ↓] Go.wp_at_zero Go.wp_at_succ

/-- The error of two units and a percentage, from the errors of the units. -/
def bothE (a b p : Int) : Int := firstV [a, b, unlessV (withinB p 0 100) 2]
theorem bothE_zero {a b p : Int} : bothE a b p = 0 ↔ a = 0 ∧ b = 0 ∧ withinB p 0 100 = true := by
  unfold bothE
  rw [firstV_zero, firstV_zero, firstV_zero, unless_ne (by decide)]
  simp [firstV]

set_option maxHeartbeats 2000000 in
set_option maxRecDepth 100000 in
theorem bothErr_any (k t s : Int) (r : Bool) (k2 t2 s2 : Int) (r2 : Bool) (n : Int) (l u o : Int) (z : Bool) (l2 u2 o2 : Int) (z2 : Bool) (m p : Int) (w : World) :
    Calls Tryz.prog 75 #[.agg #[.int .i64 k, .int .i64 t, .int .i64 s, .bool r, .int .i64 k2, .int .i64 t2, .int .i64 s2, .bool r2, .int .i64 n], .agg #[.int .i64 l, .int .i64 u, .int .i64 o, .bool z, .int .i64 l2, .int .i64 u2, .int .i64 o2, .bool z2, .int .i64 m], .int .i64 p] w fun e w' =>
      e = .returned (.int .i64 (bothE (unitE k t s k2 t2 s2 n) (unitE l u o l2 u2 o2 m) p)) ∧ Below w.heap.size w w' := by
  have H1 := Lib.hid (checkUnit_any k t s r k2 t2 s2 r2 n)
  have H2 := Lib.hid (checkUnit_any l u o z l2 u2 o2 z2 m)
  have HV := Lib.hid (show firstV [unitE k t s k2 t2 s2 n, unitE l u o l2 u2 o2 m, unlessV (withinB p 0 100) 2] = bothE (unitE k t s k2 t2 s2 n) (unitE l u o l2 u2 o2 m) p from rfl)
  generalize bothE (unitE k t s k2 t2 s2 n) (unitE l u o l2 u2 o2 m) p = E at *
  generalize unitE k t s k2 t2 s2 n = a at *
  generalize unitE l u o l2 u2 o2 m = b at *
  go_enter Tryz.func75, Tryz.ntmps75
  go_wp2
  refine region_below 7 follows_mixed (by kernel_rfl) ?_
  intro C hC
  simp only [List.take_succ_cons, List.take_zero, List.drop_succ_cons, List.drop_zero]
  repeat (first
    | ((with_reducible refine quiet_plain rfl (fun K hK => ?_)); (focus (apply quiet_val; (focus (intro w' hw; obtain ⟨hcq, hfq⟩ := bcell ((hC.out _).1 hw); go_simp; (first | done | rfl | (with_reducible exact call_below hC hw (H1.out _)) | (with_reducible exact call_below hC hw (H2.out _)) | (with_reducible exact call_same hw (within_any _ _ _ _)) | (with_reducible exact call_same hw (unless_any _ _ _))))); (simp only [Act.put, List.setIfInBounds_toArray, List.set_cons_succ, List.set_cons_zero]); (with_reducible refine hK _ ?_); clear hK K)))
    | ((with_reducible refine quiet_skip ?_ ?_); (focus (first | (simp [Region.wanted, yielded]; done) | (simp [Region.wanted, yielded, undef]; done))); simp only [Act.put, List.setIfInBounds_toArray, List.set_cons_succ, List.set_cons_zero])
    | ((with_reducible refine quiet_go ?_ (fun K hK => ?_)); (focus (first | (simp [Region.wanted, yielded]; done) | (simp [Region.wanted, yielded, undef]; done))); (focus (apply quiet_val; (focus (intro w' hw; obtain ⟨hcq, hfq⟩ := bcell ((hC.out _).1 hw); go_simp; (first | done | rfl | (with_reducible exact call_below hC hw (H1.out _)) | (with_reducible exact call_below hC hw (H2.out _)) | (with_reducible exact call_same hw (within_any _ _ _ _)) | (with_reducible exact call_same hw (unless_any _ _ _))))); (simp only [Act.put, List.setIfInBounds_toArray, List.set_cons_succ, List.set_cons_zero]); (with_reducible refine hK _ ?_); clear hK K))))
  refine wpQuiet_nil ?_
  intro w1 hb1
  replace hb1 := (hC.out _).1 hb1
  clear hC C
  obtain ⟨hc1, hf1⟩ := bcell hb1
  go_wp2_with (go_at_call 45; refine (gfirst3 _ _ _ _ _ _ (by first | (go_simp; done) | (go_simp; rfl)) (by first | (go_simp; done) | (go_simp; rfl)) (by first | (go_simp; done) | (go_simp; rfl)) _ HV.out).mono ?_; rintro e w' ⟨rfl, rfl⟩)
  go_ret
  exact ⟨rfl, pa (pt (pa (pa pr)) hb1)⟩

set_option maxHeartbeats 4000000 in
set_option maxRecDepth 100000 in
theorem MayRun_ok (k t s : Int) (r : Bool) (k2 t2 s2 : Int) (r2 : Bool) (n : Int) (l u o : Int) (z : Bool) (l2 u2 o2 : Int) (z2 : Bool) (m p : Int) (e1 : unitE k t s k2 t2 s2 n = 0) (e2 : unitE l u o l2 u2 o2 m = 0) (hp : withinB p 0 100 = true) (w : World) (hT : TwIn w) (hP : PatIn w) :
    Calls Tryz.prog 32 #[.agg #[.int .i64 k, .int .i64 t, .int .i64 s, .bool r, .int .i64 k2, .int .i64 t2, .int .i64 s2, .bool r2, .int .i64 n], .agg #[.int .i64 l, .int .i64 u, .int .i64 o, .bool z, .int .i64 l2, .int .i64 u2, .int .i64 o2, .bool z2, .int .i64 m], .int .i64 p] w fun e w' =>
      e = .returned (.tuple #[.bool (((whV k s r - whV k2 s2 r2) % 12) == ((whV l o z - whV l2 o2 z2) % 12) && closeV (ratN (sqW k t) (sqW k2 t2)) (ratD (sqW k t) (sqW k2 t2)) (ratN (sqW l u) (sqW l2 u2)) (ratD (sqW l u) (sqW l2 u2)) p), .int .i64 0]) ∧ Below w.heap.size w w' := by
  have HB := bothErr_any k t s r k2 t2 s2 r2 n l u o z l2 u2 o2 z2 m p
  rw [bothE_zero.2 ⟨e1, e2, hp⟩] at HB
  replace HB := Lib.hid HB
  obtain ⟨u1, u2', _, _⟩ := unitE_ok r r2 e1
  obtain ⟨u3, u4, _, _⟩ := unitE_ok z z2 e2
  have hp' : 0 ≤ p ∧ p ≤ 100 := by simpa [withinB] using hp
  have HK1 := Lib.hid (clock_any k t s r k2 t2 s2 r2 n u1 u2')
  have HK2 := Lib.hid (clock_any l u o z l2 u2 o2 z2 m u3 u4)
  have HA := Lib.hid (areClose_any k t s r k2 t2 s2 r2 n l u o z l2 u2 o2 z2 m p u1 u2' u3 u4 hp')
  have HT := Lib.hid (fun w' (h : Below w.heap.size w w') => hT.below h)
  have HP := Lib.hid (fun w' (h : Below w.heap.size w w') => hP.below h)
  clear e1 e2 u1 u2' u3 u4 hp hp' hT hP
  generalize closeV (ratN (sqW k t) (sqW k2 t2)) (ratD (sqW k t) (sqW k2 t2)) (ratN (sqW l u) (sqW l2 u2)) (ratD (sqW l u) (sqW l2 u2)) p = X at *
  generalize ((whV k s r - whV k2 s2 r2) % 12) = c1 at *
  generalize ((whV l o z - whV l2 o2 z2) % 12) = c2 at *
  cases hq : (c1 == c2)
  all_goals
    go_enter Tryz.func32, Tryz.ntmps32
    go_wp2_with (go_at_call 75; (with_reducible refine (HB.out _).mono ?_); rintro e w1 ⟨rfl, hb1⟩)
    have S1 := pt (pa (o := .cells #[.int .i64 k, .int .i64 t, .int .i64 s, .bool r, .int .i64 k2, .int .i64 t2, .int .i64 s2, .bool r2, .int .i64 n] 48) pr |> pa (o := .cells #[.int .i64 l, .int .i64 u, .int .i64 o, .bool z, .int .i64 l2, .int .i64 u2, .int .i64 o2, .bool z2, .int .i64 m] 48)) hb1
    have A_1 : Blk w1 w.heap.size 48 #[.int .i64 k, .int .i64 t, .int .i64 s, .bool r, .int .i64 k2, .int .i64 t2, .int .i64 s2, .bool r2, .int .i64 n] := (Blk.newAt (by simp)).alloc.past hb1
    have B_1 : Blk w1 (w.heap.size + 1) 48 #[.int .i64 l, .int .i64 u, .int .i64 o, .bool z, .int .i64 l2, .int .i64 u2, .int .i64 o2, .bool z2, .int .i64 m] := (Blk.newAt (by simp)).past hb1
    clear hb1
    obtain ⟨v, rfl⟩ : ∃ v, v = w1 := ⟨_, rfl⟩
    have Ac0 := A_1.cellAt 0 rfl
    have Ac1 := A_1.cellAt 1 rfl
    have Ac2 := A_1.cellAt 2 rfl
    have Ac3 := A_1.cellAt 3 rfl
    have Ac4 := A_1.cellAt 4 rfl
    have Ac5 := A_1.cellAt 5 rfl
    have Ac6 := A_1.cellAt 6 rfl
    have Ac7 := A_1.cellAt 7 rfl
    have Ac8 := A_1.cellAt 8 rfl
    have Al := A_1.lt
    have Bc0 := B_1.cellAt 0 rfl
    have Bc1 := B_1.cellAt 1 rfl
    have Bc2 := B_1.cellAt 2 rfl
    have Bc3 := B_1.cellAt 3 rfl
    have Bc4 := B_1.cellAt 4 rfl
    have Bc5 := B_1.cellAt 5 rfl
    have Bc6 := B_1.cellAt 6 rfl
    have Bc7 := B_1.cellAt 7 rfl
    have Bc8 := B_1.cellAt 8 rfl
    have Bl := B_1.lt
    refine region_below 11 follows_mixed (by kernel_rfl) ?_
    intro C hC
    simp only [List.take_succ_cons, List.take_zero, List.drop_succ_cons, List.drop_zero]
    repeat (first
      | ((with_reducible refine quiet_plain rfl (fun K hK => ?_)); (focus (apply quiet_val; (focus (intro w' hw; obtain ⟨hcq, hfq⟩ := bcell ((hC.out _).1 hw); go_simp; (first | done | rfl | (with_reducible exact call_below hC hw (HK1.out _ (HT.out _ (pt S1 ((hC.out _).1 hw))) (HP.out _ (pt S1 ((hC.out _).1 hw))))) | (with_reducible exact call_below hC hw (HK2.out _ (HT.out _ (pt S1 ((hC.out _).1 hw))) (HP.out _ (pt S1 ((hC.out _).1 hw))))) | (with_reducible exact call_below hC hw (HA.out _ (HP.out _ (pt S1 ((hC.out _).1 hw)))))))); (simp only [Act.put, List.setIfInBounds_toArray, List.set_cons_succ, List.set_cons_zero]); (with_reducible refine hK _ ?_); clear hK K)))
      | ((with_reducible refine quiet_skip ?_ ?_); (focus (first | (simp [Region.wanted, yielded]; done) | (simp [Region.wanted, yielded, undef]; done))); simp only [Act.put, List.setIfInBounds_toArray, List.set_cons_succ, List.set_cons_zero])
      | ((with_reducible refine quiet_go ?_ (fun K hK => ?_)); (focus (first | (simp [Region.wanted, yielded]; done) | (simp [Region.wanted, yielded, undef]; done))); (focus (apply quiet_val; (focus (intro w' hw; obtain ⟨hcq, hfq⟩ := bcell ((hC.out _).1 hw); go_simp; (first | done | rfl | (with_reducible exact call_below hC hw (HK1.out _ (HT.out _ (pt S1 ((hC.out _).1 hw))) (HP.out _ (pt S1 ((hC.out _).1 hw))))) | (with_reducible exact call_below hC hw (HK2.out _ (HT.out _ (pt S1 ((hC.out _).1 hw))) (HP.out _ (pt S1 ((hC.out _).1 hw))))) | (with_reducible exact call_below hC hw (HA.out _ (HP.out _ (pt S1 ((hC.out _).1 hw)))))))); (simp only [Act.put, List.setIfInBounds_toArray, List.set_cons_succ, List.set_cons_zero]); (with_reducible refine hK _ ?_); clear hK K))))
    refine wpQuiet_nil ?_
    intro w1 hb1
    replace hb1 := (hC.out _).1 hb1
    clear hC C
    obtain ⟨hc1, hf1⟩ := bcell hb1
    go_wp2
    go_ret2
    exact ⟨rfl, pt S1 hb1⟩

end Go.Proofs.YtpdkbhjcpddnpaaGreatDoor
end
