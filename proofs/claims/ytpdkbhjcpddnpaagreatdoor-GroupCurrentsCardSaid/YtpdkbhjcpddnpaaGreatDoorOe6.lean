/- Contract: the document's examples hold (awake), where the tables stand as they were laid. -/
import Derived.Test.YtpdkbhjcpddnpaaGreatDoorOe4
import Derived.Test.YtpdkbhjcpddnpaaGreatDoorOd8
import Derived.Test.YtpdkbhjcpddnpaaGreatDoorOd3
import Derived.Test.YtpdkbhjcpddnpaaGreatDoorOe5

section
namespace Go.Proofs.YtpdkbhjcpddnpaaGreatDoor
open Go.RowKit
attribute [local go_sem ↓] Go.wp_at_zero Go.wp_at_succ

theorem frac_size : (Tryz.prog.info? 59).map (·.size) = some 2 := by kernel_rfl
theorem whole_any (n : Int) (w : World) : Calls Tryz.prog 33 #[.int .i64 n] w fun e w' => e = .returned (.agg #[.int .i64 n, .int .i64 1]) ∧ Below w.heap.size w w' := by
  go_enter Tryz.func33, Tryz.ntmps33
  go_wp2
  exact bodyPost_ret (v := .agg #[.int .i64 n, .int .i64 1]) (by simp [results, Tryz.results33, go_sem]) rfl ⟨rfl, by repeat (first | exact pr | refine pa ?_ | refine ps ?_ (by simp))⟩

theorem linesOf_c (w : World) (hP : PatIn w) : Calls Tryz.prog 36 #[.agg #[.int .i64 0, .int .i64 10, .int .i64 0, .bool false]] w fun z w' => z = .returned (.tuple #[.agg #[.int .i64 10, .int .i64 (-10), .int .i64 0, .int .i64 0, .int .i64 10, .int .i64 (-10), .int .i64 (-10), .int .i64 0, .int .i64 10], .int .i64 0]) ∧ Below w.heap.size w w' :=
  LinesOf_ok 0 10 0 false (by decide) ⟨⟨10, -10, 0⟩, ⟨0, 10, -10⟩, ⟨-10, 0, 10⟩⟩ (by decide) w hP
theorem phasorOf_c (w : World) : Calls Tryz.prog 37 #[.agg #[.int .i64 10, .int .i64 (-10), .int .i64 0, .int .i64 0, .int .i64 10, .int .i64 (-10), .int .i64 (-10), .int .i64 0, .int .i64 10]] w fun z w' => z = .returned (.tuple #[.agg #[.int .i64 20, .int .i64 10], .int .i64 0]) ∧ Below w.heap.size w w' :=
  PhasorOf_ok 10 (-10) 0 0 10 (-10) (-10) 0 10 (by decide) w
theorem lowFor_c (w : World) (hT : TwIn w) (hP : PatIn w) : Calls Tryz.prog 38 #[.agg #[.int .i64 1, .int .i64 10, .int .i64 0, .bool false], .int .i64 0, .int .i64 5] w fun z w' => z = .returned (.tuple #[.agg #[.int .i64 0, .int .i64 10, .int .i64 0, .bool true], .int .i64 0]) ∧ Below w.heap.size w w' := by
  have h := lowFor_ok 1 10 0 false 0 5 (by decide) w hT hP
  rw [show lowV (whV 1 0 false) 0 5 = some (0, true) by decide] at h
  exact h

set_option maxHeartbeats 8000000 in
set_option maxRecDepth 100000 in
theorem awake_any (w : World) (hT : TwIn w) (hP : PatIn w) :
    Calls Tryz.prog 6 #[] w fun e w' => e = .returned (.bool true) ∧ Below w.heap.size w w' := by
  have HT := Lib.hid (fun w' (h : Below w.heap.size w w') => hT.below h)
  have HP := Lib.hid (fun w' (h : Below w.heap.size w w') => hP.below h)
  clear hT hP
  go_enter Tryz.func6, Tryz.ntmps6
  go_wp2_with (first
    | (go_at_call 36; refine (linesOf_c _ (HP.out _ (pa pr))).mono ?_; rintro e w1 ⟨rfl, hb1⟩; have P1 : Blk w1 w.heap.size 45 #[.int .i64 0, .int .i64 10, .int .i64 0, .bool false] := (Blk.newAt rfl).past hb1; have S1 := pt (pa pr) hb1; have R1 : Blk (w1.alloc (.cells #[.int .i64 0, .int .i64 0, .int .i64 0, .int .i64 0, .int .i64 0, .int .i64 0, .int .i64 0, .int .i64 0, .int .i64 0] 96)) w1.heap.size 96 #[.int .i64 0, .int .i64 0, .int .i64 0, .int .i64 0, .int .i64 0, .int .i64 0, .int .i64 0, .int .i64 0, .int .i64 0] := Blk.new _ _ _)
    | ((with_reducible refine store_blk (T := 96) (x := .tmp 2) (y := .tmp 16) (vs := #[.int .i64 10, .int .i64 (-10), .int .i64 0, .int .i64 0, .int .i64 10, .int .i64 (-10), .int .i64 (-10), .int .i64 0, .int .i64 10]) R1 ?_ ?_ ?_ ?_ ?_ ?_); (focus rfl); (focus exact apiLines_size); (focus (simp [Value.oneCell']; done)); (focus rfl); (focus rfl); intro w2 R2 F2; have P2 := P1.alloc.put F2 (by have := P1.lt; omega); have S2 := pp (pa S1) F2 S1.size)
    | ((with_reducible refine load_blk (T := 96) (x := .tmp 2) R2 Tryz.underlying96 ?_ ?_ ?_ ?_); (focus rfl); (focus exact apiLines_size); (focus rfl))
    | (go_at_call 37; refine (phasorOf_c _).mono ?_; rintro e w3 ⟨rfl, hb3⟩; have P3 := P2.past hb3; have S3 := pt S2 hb3)
    | (go_at_call 38; refine (lowFor_c _ (HT.out _ (pa S3)) (HP.out _ (pa S3))).mono ?_; rintro e w4 ⟨rfl, hb4⟩; have P4 := P3.alloc.past hb4; have S4 := pt (pa S3) hb4; have Z4 : Blk w4 w3.heap.size 24 #[.int .i64 20, .int .i64 10] := (Blk.new _ _ _).past hb4; have p0 := P4.cellAt 0 rfl; have p1 := P4.cellAt 1 rfl; have p2 := P4.cellAt 2 rfl; have p3 := P4.cellAt 3 rfl; have pl := P4.lt)
    | (go_at_call 39; refine (NameOf_c _ (HT.out _ (pa S4)) (HP.out _ (pa S4))).mono ?_; rintro e w5 ⟨rfl, hb5⟩; have S5 := pt (pa S4) hb5; have Z5 := Z4.alloc.past hb5; have L5 : Blk w5 w4.heap.size 45 #[.int .i64 0, .int .i64 10, .int .i64 0, .bool true] := (Blk.new _ _ _).past hb5; clear p0 p1 p2 p3 pl)
    | (go_at_call 33; (first | (with_reducible refine (whole_any 1 _).mono ?_; rintro e w6 ⟨rfl, hb6⟩; have S6 := pt S5 hb6; have Z6 := Z5.past hb6; have L6 := L5.past hb6) | (with_reducible refine (whole_any 2 _).mono ?_; rintro e w7 ⟨rfl, hb7⟩; have S7 := pt S6 hb7; have Z7 := Z6.past hb7; have L7 := L6.past hb7)))
    | (go_at_call 7; refine (CurrentsOf_c _ _ _ (Blk.new w7 87 _)).mono ?_; rintro e w8 ⟨o, rfl, hb8, ho, O8⟩; have S8 := pt (pa S7) hb8; have Z8 := Z7.alloc.past hb8; have L8 := L7.alloc.past hb8; have z0 := Z8.cellAt 0 rfl; have z1 := Z8.cellAt 1 rfl; have zl := Z8.lt; have l0 := L8.cellAt 0 rfl; have l1 := L8.cellAt 1 rfl; have l2 := L8.cellAt 2 rfl; have l3 := L8.cellAt 3 rfl; have ll := L8.lt; have o0 := O8.cellAt 0 rfl; have o1 := O8.cellAt 1 rfl; have o4 := O8.cellAt 4 rfl; have o5 := O8.cellAt 5 rfl; have ol := O8.lt))
  refine region_below 31 follows_mixed (by kernel_rfl) ?_
  intro C hC
  simp only [List.take_succ_cons, List.take_zero, List.drop_succ_cons, List.drop_zero]
  repeat (first
    | ((with_reducible refine quiet_plain rfl (fun K hK => ?_)); (focus (apply quiet_val; (focus (intro w' hw; obtain ⟨hcq, hfq⟩ := bcell ((hC.out _).1 hw); go_simp; (first | done | rfl | (with_reducible exact call_below hC hw (whole_any _ _))))); (simp only [Act.put, List.setIfInBounds_toArray, List.set_cons_succ, List.set_cons_zero]); (with_reducible refine hK _ ?_); clear hK K)))
    | ((with_reducible refine quiet_skip ?_ ?_); (focus (first | (simp [Region.wanted, yielded]; done) | (simp [Region.wanted, yielded, undef]; done))); simp only [Act.put, List.setIfInBounds_toArray, List.set_cons_succ, List.set_cons_zero])
    | ((with_reducible refine quiet_go ?_ (fun K hK => ?_)); (focus (first | (simp [Region.wanted, yielded]; done) | (simp [Region.wanted, yielded, undef]; done))); (focus (apply quiet_val; (focus (intro w' hw; obtain ⟨hcq, hfq⟩ := bcell ((hC.out _).1 hw); go_simp; (first | done | rfl | (with_reducible exact call_below hC hw (whole_any _ _))))); (simp only [Act.put, List.setIfInBounds_toArray, List.set_cons_succ, List.set_cons_zero]); (with_reducible refine hK _ ?_); clear hK K))))
  refine wpQuiet_nil ?_
  intro w1 hb1
  replace hb1 := (hC.out _).1 hb1
  clear hC C
  obtain ⟨hc1, hf1⟩ := bcell hb1
  go_wp2
  go_ret
  exact ⟨rfl, pt S8 hb1⟩

end Go.Proofs.YtpdkbhjcpddnpaaGreatDoor
end
