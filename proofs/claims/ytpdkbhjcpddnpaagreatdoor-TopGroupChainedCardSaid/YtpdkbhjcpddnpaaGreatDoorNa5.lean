/- Contracts of turns: exported functions; the specification's. -/
import Derived.Test.YtpdkbhjcpddnpaaGreatDoorNA
import Derived.Test.YtpdkbhjcpddnpaaGreatDoorN6

section
namespace Go.Proofs.YtpdkbhjcpddnpaaGreatDoor
open Go.RowKit
attribute [local go_sem ↓] Go.wp_at_zero Go.wp_at_succ
attribute [local go_sem ↓ high] tn_eql tn_neq

set_option maxHeartbeats 2000000 in
set_option maxRecDepth 100000 in
theorem Composed_err (h : Int) (m : Bool) (k : Int) (n : Bool) (he : firstV [turnE h, turnE k] ≠ 0) (w : World) :
    Calls Tryz.prog 26 #[.agg #[.int .i64 h, .bool m], .agg #[.int .i64 k, .bool n]] w fun e w' => e = .returned (.tuple #[.agg #[.int .i64 0, .bool false], .int .i64 (firstV [turnE h, turnE k])]) ∧ Below w.heap.size w w' := by
  have HV := Lib.hid (show firstV [turnE h, turnE k] = firstV [turnE h, turnE k] from rfl)
  have hne : (firstV [turnE h, turnE k] == 0) = false := by simpa using he
  generalize hE : firstV [turnE h, turnE k] = E at he hne ⊢
  have HE := Lib.hid hE
  clear he hE HV
  go_enter Tryz.func26, Tryz.ntmps26
  go_wp2
  refine region_below 4 follows_mixed (by kernel_rfl) ?_
  intro C hC
  simp only [List.take_succ_cons, List.take_zero, List.drop_succ_cons, List.drop_zero]
  repeat (first
    | ((with_reducible refine quiet_plain rfl (fun K hK => ?_)); (focus (apply quiet_val; (focus (intro w' hw; obtain ⟨hcq, hfq⟩ := bcell ((hC.out _).1 hw); go_simp; (first | done | rfl | (with_reducible exact call_below hC hw (turnErr_any _ _ _))))); (simp only [Act.put, List.setIfInBounds_toArray, List.set_cons_succ, List.set_cons_zero]); (with_reducible refine hK _ ?_); clear hK K)))
    | ((with_reducible refine quiet_skip ?_ ?_); (focus (first | (simp [Region.wanted, yielded]; done) | (simp [Region.wanted, yielded, undef]; done))); simp only [Act.put, List.setIfInBounds_toArray, List.set_cons_succ, List.set_cons_zero])
    | ((with_reducible refine quiet_go ?_ (fun K hK => ?_)); (focus (first | (simp [Region.wanted, yielded]; done) | (simp [Region.wanted, yielded, undef]; done))); (focus (apply quiet_val; (focus (intro w' hw; obtain ⟨hcq, hfq⟩ := bcell ((hC.out _).1 hw); go_simp; (first | done | rfl | (with_reducible exact call_below hC hw (turnErr_any _ _ _))))); (simp only [Act.put, List.setIfInBounds_toArray, List.set_cons_succ, List.set_cons_zero]); (with_reducible refine hK _ ?_); clear hK K))))
  refine wpQuiet_nil ?_
  intro w1 hb1
  replace hb1 := (hC.out _).1 hb1
  clear hC C
  obtain ⟨hc1, hf1⟩ := bcell hb1
  have R1 : Blk w1 (w.heap.size + 1 + 1) 69 #[.int .i64 0, .bool false] := (Blk.newAt (by simp)).past hb1
  have S1 := pt (pa (pa (pa pr))) hb1
  clear hb1 hc1 hf1
  have r0 := R1.cellAt 0 rfl
  have r1 := R1.cellAt 1 rfl
  have s0 := R1.frozen 0
  have s1 := R1.frozen 1
  have rl := R1.lt
  go_wp2_with (go_at_call 45; refine (gfirst2 _ _ _ _ _ (by first | (go_simp; done) | (go_simp; rfl)) (by first | (go_simp; done) | (go_simp; rfl)) _ HE.out).mono ?_; rintro e w' ⟨rfl, rfl⟩)
  exact bodyPost_ret (v := .tuple #[.agg #[.int .i64 0, .bool false], .int .i64 E]) (by simp [results, Tryz.results26, go_sem, r0, r1, rl]) rfl ⟨rfl, by repeat (first | exact S1 | refine pa ?_ | refine ps ?_ (by first | (simp; done) | (simp; omega)))⟩

set_option maxHeartbeats 2000000 in
set_option maxRecDepth 100000 in
theorem Composed_ok (h : Int) (m : Bool) (k : Int) (n : Bool) (h1 : turnE h = 0) (h2 : turnE k = 0) (w : World) :
    Calls Tryz.prog 26 #[.agg #[.int .i64 h, .bool m], .agg #[.int .i64 k, .bool n]] w fun e w' => e = .returned (.tuple #[.agg #[.int .i64 (compV ⟨h, m⟩ ⟨k, n⟩).hours, .bool (compV ⟨h, m⟩ ⟨k, n⟩).mir], .int .i64 0]) ∧ Below w.heap.size w w' := by
  have HC := Lib.hid (composed_any h m k n (turnE_ok h1) (turnE_ok h2))
  have HE := Lib.hid (show firstV [turnE h, turnE k] = 0 by rw [h1, h2]; rfl)
  generalize (compV ⟨h, m⟩ ⟨k, n⟩).hours = x at *
  generalize (compV ⟨h, m⟩ ⟨k, n⟩).mir = y at *
  clear h1 h2
  go_enter Tryz.func26, Tryz.ntmps26
  go_wp2
  refine region_below 4 follows_mixed (by kernel_rfl) ?_
  intro C hC
  simp only [List.take_succ_cons, List.take_zero, List.drop_succ_cons, List.drop_zero]
  repeat (first
    | ((with_reducible refine quiet_plain rfl (fun K hK => ?_)); (focus (apply quiet_val; (focus (intro w' hw; obtain ⟨hcq, hfq⟩ := bcell ((hC.out _).1 hw); go_simp; (first | done | rfl | (with_reducible exact call_below hC hw (turnErr_any _ _ _))))); (simp only [Act.put, List.setIfInBounds_toArray, List.set_cons_succ, List.set_cons_zero]); (with_reducible refine hK _ ?_); clear hK K)))
    | ((with_reducible refine quiet_skip ?_ ?_); (focus (first | (simp [Region.wanted, yielded]; done) | (simp [Region.wanted, yielded, undef]; done))); simp only [Act.put, List.setIfInBounds_toArray, List.set_cons_succ, List.set_cons_zero])
    | ((with_reducible refine quiet_go ?_ (fun K hK => ?_)); (focus (first | (simp [Region.wanted, yielded]; done) | (simp [Region.wanted, yielded, undef]; done))); (focus (apply quiet_val; (focus (intro w' hw; obtain ⟨hcq, hfq⟩ := bcell ((hC.out _).1 hw); go_simp; (first | done | rfl | (with_reducible exact call_below hC hw (turnErr_any _ _ _))))); (simp only [Act.put, List.setIfInBounds_toArray, List.set_cons_succ, List.set_cons_zero]); (with_reducible refine hK _ ?_); clear hK K))))
  refine wpQuiet_nil ?_
  intro w1 hb1
  replace hb1 := (hC.out _).1 hb1
  clear hC C
  obtain ⟨hc1, hf1⟩ := bcell hb1
  have P1 : Blk w1 w.heap.size 69 #[.int .i64 h, .bool m] := (Blk.newAt rfl).alloc.alloc.past hb1
  have Q1 : Blk w1 (w.heap.size + 1) 69 #[.int .i64 k, .bool n] := (Blk.newAt (by simp)).alloc.past hb1
  have R1 : Blk w1 (w.heap.size + 1 + 1) 69 #[.int .i64 0, .bool false] := (Blk.newAt (by simp)).past hb1
  have S1 := pt (pa (pa (pa pr))) hb1
  clear hb1 hc1 hf1
  have p0 := P1.cellAt 0 rfl
  have p1 := P1.cellAt 1 rfl
  have pl := P1.lt
  have q0 := Q1.cellAt 0 rfl
  have q1 := Q1.cellAt 1 rfl
  have ql := Q1.lt
  go_wp2_with (first
    | (go_at_call 45; refine (gfirst2 _ _ _ _ _ (by first | (go_simp; done) | (go_simp; rfl)) (by first | (go_simp; done) | (go_simp; rfl)) _ HE.out).mono ?_; rintro e w' ⟨rfl, rfl⟩)
    | (go_at_call 66; refine (HC.out _).mono ?_; rintro e w2 ⟨rfl, hb2⟩; have R2 := R1.alloc.past hb2; have S2 := pt (pa S1) hb2; have r0 := R2.cellAt 0 rfl; have r1 := R2.cellAt 1 rfl; have s0 := R2.frozen 0; have s1 := R2.frozen 1; have rl := R2.lt))
  exact bodyPost_ret (v := .tuple #[.agg #[.int .i64 x, .bool y], .int .i64 0]) (by simp [results, Tryz.results26, go_sem, r0, r1]) rfl ⟨rfl, by repeat (first | exact S2 | refine pa ?_ | refine ps ?_ (by first | (simp; done) | (simp; omega)))⟩

set_option maxHeartbeats 2000000 in
theorem Inverse_err (h : Int) (m : Bool) (he : turnE h ≠ 0) (w : World) :
    Calls Tryz.prog 27 #[.agg #[.int .i64 h, .bool m]] w fun e w' => e = .returned (.tuple #[.agg #[.int .i64 0, .bool false], .int .i64 (turnE h)]) ∧ Below w.heap.size w w' := by
  have HC := Lib.hid (turnErr_any h m)
  have hne : (turnE h == 0) = false := by simpa using he
  generalize turnE h = E at *
  clear he
  go_enter Tryz.func27, Tryz.ntmps27
  go_wp2_with (go_at_call 65; refine (HC.out _).mono ?_; rintro e w2 ⟨rfl, hb2⟩; have R2 : Blk w2 (w.heap.size + 1) 69 #[.int .i64 0, .bool false] := (Blk.newAt (by simp)).past hb2; have r0 := R2.cellAt 0 rfl; have r1 := R2.cellAt 1 rfl; have s0 := R2.frozen 0; have s1 := R2.frozen 1; have rl := R2.lt)
  exact bodyPost_ret (v := .tuple #[.agg #[.int .i64 0, .bool false], .int .i64 E]) (by simp [results, Tryz.results27, go_sem, r0, r1]) rfl ⟨rfl, by repeat (first | exact (pt (pa (pa pr)) hb2) | refine pa ?_ | refine ps ?_ (by first | (simp; done) | (simp; omega)))⟩

set_option maxHeartbeats 2000000 in
theorem Inverse_ok (h : Int) (m : Bool) (h1 : turnE h = 0) (w : World) :
    Calls Tryz.prog 27 #[.agg #[.int .i64 h, .bool m]] w fun e w' => e = .returned (.tuple #[.agg #[.int .i64 (invV ⟨h, m⟩).hours, .bool (invV ⟨h, m⟩).mir], .int .i64 0]) ∧ Below w.heap.size w w' := by
  have HC := Lib.hid (turnErr_any h m)
  obtain ⟨g1, g2⟩ := turnE_ok h1
  rw [h1] at HC
  clear h1
  cases m
  all_goals
    go_enter Tryz.func27, Tryz.ntmps27
    go_wp2_with (first
      | (go_at_call 65; refine (HC.out _).mono ?_; rintro e w2 ⟨rfl, hb2⟩; have P2 : Blk w2 w.heap.size 69 #[.int .i64 h, .bool _] := (Blk.newAt rfl).alloc.past hb2; have R2 : Blk w2 (w.heap.size + 1) 69 #[.int .i64 0, .bool false] := (Blk.newAt (by simp)).past hb2; have r0 := R2.cellAt 0 rfl; have r1 := R2.cellAt 1 rfl; have s0 := R2.frozen 0; have s1 := R2.frozen 1; have rl := R2.lt; have p0 := P2.cellAt 0 rfl; have p1 := P2.cellAt 1 rfl; have f0 := P2.frozen 0; have f1 := P2.frozen 1; have pl := P2.lt)
      | (go_at_call 67; refine (mod_any _ _).mono ?_; rintro e w' ⟨rfl, rfl⟩))
    refine bodyPost_ret (v := .tuple #[.agg #[.int .i64 (invV ⟨h, _⟩).hours, .bool (invV ⟨h, _⟩).mir], .int .i64 0]) (by simp [results, Tryz.results27, go_sem, r0, r1, invV]) rfl ⟨rfl, by repeat (first | exact (pt (pa (pa pr)) hb2) | refine pa ?_ | refine ps ?_ (by first | (simp; done) | (simp; omega)))⟩

end Go.Proofs.YtpdkbhjcpddnpaaGreatDoor
end
