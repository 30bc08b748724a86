/- Contract: the specification's string of a unit. -/
import Derived.Test.YtccpkheiokjcdaaGreatDoorKNRef
namespace Go.Proofs.YtccpkheiokjcdaaGreatDoor
open Go.RowKit
attribute [local go_sem ↓] Go.wp_at_zero Go.wp_at_succ

theorem refWinding_any (x : Wind) (ht : I64 x.turns) (hs : I64 x.shift) (w : World) :
    Calls Tryz.prog 26 #[.agg #[.int .i64 x.kind, .int .i64 x.turns, .int .i64 x.shift, .bool x.rev]] w fun e w' => e = .returned (.string ⟨(fmtW x).toArray⟩) ∧ Below w.heap.size w w' :=
  refWinding_core x.kind x.turns x.shift x.rev (letterV x.kind) (if x.rev then 45 else 43) (letter_cases x.kind) (by cases x.rev; exact .inr ⟨rfl, rfl⟩; exact .inl ⟨rfl, rfl⟩) ht hs w

set_option maxHeartbeats 4000000 in
set_option maxRecDepth 100000 in
theorem refFormatUnit_any (x y : Wind) (n : Int) (hx1 : I64 x.turns) (hx2 : I64 x.shift) (hy1 : I64 y.turns) (hy2 : I64 y.shift) (hn : I64 n) (w : World) :
    Calls Tryz.prog 8 #[.agg #[.int .i64 x.kind, .int .i64 x.turns, .int .i64 x.shift, .bool x.rev, .int .i64 y.kind, .int .i64 y.turns, .int .i64 y.shift, .bool y.rev, .int .i64 n]] w fun e w' => e = .returned (.string ⟨(fmtU x y n).toArray⟩) ∧ Below w.heap.size w w' := by
  have HA := Lib.hid (fun w' => refWinding_any x hx1 hx2 w')
  have HB := Lib.hid (fun w' => refWinding_any y hy1 hy2 w')
  have HC := Lib.hid (fun w' => refDecimal_any n hn.1 hn.2 w')
  have la := fmtW_len x hx1 hx2
  have lb := fmtW_len y hy1 hy2
  have lc := itoa_len hn.1 hn.2
  unfold fmtU
  generalize fmtW x = X at *
  generalize fmtW y = Y at *
  generalize Lib.itoa n = Z at *
  have hz : X ++ 32 :: (Y ++ 32 :: Z) = (((X ++ [32]) ++ Y) ++ [32]) ++ Z := by simp
  rw [hz]
  have f1 := add_list X [32] (by simp; omega)
  have f2 := add_list (X ++ [32]) Y (by simp; omega)
  have f3 := add_list ((X ++ [32]) ++ Y) [32] (by simp; omega)
  have f4 := add_list (((X ++ [32]) ++ Y) ++ [32]) Z (by simp; omega)
  generalize (((X ++ [32]) ++ Y) ++ [32]) ++ Z = x4 at *
  generalize ((X ++ [32]) ++ Y) ++ [32] = x3 at *
  generalize (X ++ [32]) ++ Y = x2 at *
  generalize X ++ [32] = x1 at *
  clear hz hx1 hx2 hy1 hy2 hn la lb lc
  go_enter Tryz.func8, Tryz.ntmps8
  go_wp2
  refine region_below 13 follows_mixed (by kernel_rfl) ?_
  intro C hC
  simp only [List.take_succ_cons, List.take_zero, List.drop_succ_cons, List.drop_zero]
  repeat (first
    | ((with_reducible refine quiet_plain rfl (fun K hK => ?_)); (focus (apply quiet_val; (focus (intro w' hw; obtain ⟨hcq, hfq⟩ := bcell ((hC.out _).1 hw); go_simp; (first | done | rfl | (with_reducible exact call_below hC hw (HA.out _)) | (with_reducible exact call_below hC hw (HB.out _)) | (with_reducible exact call_below hC hw (HC.out _))))); (simp only [Act.put, List.setIfInBounds_toArray, List.set_cons_succ, List.set_cons_zero]); (with_reducible refine hK _ ?_); clear hK K)))
    | ((with_reducible refine quiet_skip ?_ ?_); (focus (first | (simp [Region.wanted, yielded]; done) | (simp [Region.wanted, yielded, undef]; done))); simp only [Act.put, List.setIfInBounds_toArray, List.set_cons_succ, List.set_cons_zero])
    | ((with_reducible refine quiet_go ?_ (fun K hK => ?_)); (focus (first | (simp [Region.wanted, yielded]; done) | (simp [Region.wanted, yielded, undef]; done))); (focus (apply quiet_val; (focus (intro w' hw; obtain ⟨hcq, hfq⟩ := bcell ((hC.out _).1 hw); go_simp; (first | done | rfl | (with_reducible exact call_below hC hw (HA.out _)) | (with_reducible exact call_below hC hw (HB.out _)) | (with_reducible exact call_below hC hw (HC.out _))))); (simp only [Act.put, List.setIfInBounds_toArray, List.set_cons_succ, List.set_cons_zero]); (with_reducible refine hK _ ?_); clear hK K))))
  refine wpQuiet_nil ?_
  intro w1 hb1
  replace hb1 := (hC.out _).1 hb1
  clear hC C
  obtain ⟨hc1, hf1⟩ := bcell hb1
  go_wp2
  go_ret
  exact ⟨rfl, pt (pa pr) hb1⟩

end Go.Proofs.YtccpkheiokjcdaaGreatDoor
