/- Contract: the name of a unit of a delta and a star winding with the clock number 11. -/
import Derived.Test.YtpdkbhjcpddnpaaGreatDoorOc3
import Derived.Test.YtpdkbhjcpddnpaaGreatDoorShelf

section
namespace Go.Proofs.YtpdkbhjcpddnpaaGreatDoor
open Go.RowKit
attribute [local go_sem ↓] Go.wp_at_zero Go.wp_at_succ

theorem up_d (w : World) : Calls Tryz.prog 83 #[.string ⟨#[100]⟩] w fun e w' => e = .returned (.string ⟨#[68]⟩) ∧ Below w.heap.size w w' := by
  have h := Tryz.strings_ToUpper_ascii ⟨#[100]⟩ w (by decide) (by intro j b hb; rcases j with _ | j <;> simp at hb; subst hb; decide)
  exact h
theorem it_11 (w : World) : Calls Tryz.prog 73 #[.int .i64 11] w fun e w' => e = .returned (.string ⟨#[49, 49]⟩) ∧ w = w' := by
  have h := Tryz.strconv_Itoa_small 11 (by decide) w
  rw [show (Lib.decDigits 11).toArray = #[49, 49] by (first | decide | simp [Lib.decDigits])] at h
  exact h.mono fun e w' ⟨h1, h2⟩ => ⟨h1, h2.symm⟩

set_option maxHeartbeats 4000000 in
set_option maxRecDepth 100000 in
theorem NameOf_c (w : World) (hT : TwIn w) (hP : PatIn w) :
    Calls Tryz.prog 39 #[.agg #[.int .i64 1, .int .i64 10, .int .i64 0, .bool false, .int .i64 0, .int .i64 10, .int .i64 0, .bool false, .int .i64 0]] w fun e w' => e = .returned (.tuple #[.string ⟨#[68, 121, 49, 49]⟩, .int .i64 0]) ∧ Below w.heap.size w w' := by
  have HC := Lib.hid (checkUnit_any 1 10 0 false 0 10 0 false 0)
  rw [show unitE 1 10 0 0 10 0 0 = 0 by decide] at HC
  have HK := Lib.hid (clock_any 1 10 0 false 0 10 0 false 0 (by decide) (by decide))
  rw [show (whV 1 0 false - whV 0 0 false) % 12 = 11 by decide] at HK
  have hg := hP.1
  have t8 := hP.2 4 (by decide)
  have t4 := hP.2 0 (by decide)
  simp only [patC, List.getD_cons_succ, List.getD_cons_zero] at t8 t4
  have HT := Lib.hid hT
  have HP := Lib.hid hP
  clear hT hP
  go_enter Tryz.func39, Tryz.ntmps39
  go_wp2_with (go_at_call 56; refine (HC.out _).mono ?_; rintro e w2 ⟨rfl, hb2⟩; have P2 : Blk w2 w.heap.size 48 #[.int .i64 1, .int .i64 10, .int .i64 0, .bool false, .int .i64 0, .int .i64 10, .int .i64 0, .bool false, .int .i64 0] := (Blk.newAt rfl).past hb2; have S2 := pt (pa pr) hb2; have p0 := P2.cellAt 0 rfl; have p1 := P2.cellAt 1 rfl; have p2 := P2.cellAt 2 rfl; have p3 := P2.cellAt 3 rfl; have p4 := P2.cellAt 4 rfl; have p5 := P2.cellAt 5 rfl; have p6 := P2.cellAt 6 rfl; have p7 := P2.cellAt 7 rfl; have p8 := P2.cellAt 8 rfl; have pl := P2.lt; have q8 := ((bcell S2).1 _ 4 hg).trans t8; have q4 := ((bcell S2).1 _ 0 hg).trans t4; have qg : 0 < w2.heap.size := Nat.lt_of_lt_of_le hg S2.size; clear t8 t4)
  refine region_below 18 follows_mixed (by kernel_rfl) ?_
  intro C hC
  simp only [List.take_succ_cons, List.take_zero, List.drop_succ_cons, List.drop_zero]
  repeat (first
    | ((with_reducible refine quiet_plain rfl (fun K hK => ?_)); (focus (apply quiet_val; (focus (intro w' hw; obtain ⟨hcq, hfq⟩ := bcell ((hC.out _).1 hw); go_simp; (first | done | rfl | (with_reducible exact call_below hC hw (up_d _)) | (with_reducible exact call_below hC hw (HK.out _ (HT.out.below (pt S2 ((hC.out _).1 hw))) (HP.out.below (pt S2 ((hC.out _).1 hw))))) | (with_reducible exact call_same hw (it_11 _))))); (simp only [Act.put, List.setIfInBounds_toArray, List.set_cons_succ, List.set_cons_zero]); (with_reducible refine hK _ ?_); clear hK K)))
    | ((with_reducible refine quiet_skip ?_ ?_); (focus (first | (simp [Region.wanted, yielded]; done) | (simp [Region.wanted, yielded, undef]; done))); simp only [Act.put, List.setIfInBounds_toArray, List.set_cons_succ, List.set_cons_zero])
    | ((with_reducible refine quiet_go ?_ (fun K hK => ?_)); (focus (first | (simp [Region.wanted, yielded]; done) | (simp [Region.wanted, yielded, undef]; done))); (focus (apply quiet_val; (focus (intro w' hw; obtain ⟨hcq, hfq⟩ := bcell ((hC.out _).1 hw); go_simp; (first | done | rfl | (with_reducible exact call_below hC hw (up_d _)) | (with_reducible exact call_below hC hw (HK.out _ (HT.out.below (pt S2 ((hC.out _).1 hw))) (HP.out.below (pt S2 ((hC.out _).1 hw))))) | (with_reducible exact call_same hw (it_11 _))))); (simp only [Act.put, List.setIfInBounds_toArray, List.set_cons_succ, List.set_cons_zero]); (with_reducible refine hK _ ?_); clear hK K))))
  refine wpQuiet_nil ?_
  intro w1 hb1
  replace hb1 := (hC.out _).1 hb1
  clear hC C
  obtain ⟨hc1, hf1⟩ := bcell hb1
  go_wp2
  go_ret2
  exact ⟨rfl, pt S2 hb1⟩

end Go.Proofs.YtpdkbhjcpddnpaaGreatDoor
end
