/- Contracts of lines: the phasor of a voltage.
Contracts: the turns of a winding with their sign; the specification's sign. -/
import Derived.Test.YtpdkbhjcpddnpaaGreatDoorOc1
import Derived.Test.YtpdkbhjcpddnpaaGreatDoorOa6
import Derived.Deep.RegionHeld3
import Derived.Deep.QuietTactic
import Derived.BigQuiet
import Derived.StillTailTactics
import Derived.Deep.DrawnRows

section
namespace Go.Proofs.YtpdkbhjcpddnpaaGreatDoor
open Go.RowKit
attribute [local go_sem ↓] Go.wp_at_zero Go.wp_at_succ

theorem plus_any (p q r s : Int) (hp : Sm 1000000 p) (hq : Sm 1000000 q) (hr : Sm 1000000 r) (hs : Sm 1000000 s) (w : World) :
    Calls Tryz.prog 124 #[.agg #[.int .i64 p, .int .i64 q], .agg #[.int .i64 r, .int .i64 s]] w fun e w' => e = .returned (.agg #[.int .i64 (p + r), .int .i64 (q + s)]) ∧ Below w.heap.size w w' := by
  unfold Sm at hp hq hr hs
  go_enter Tryz.func124, Tryz.ntmps124
  go_wp2
  exact bodyPost_ret (v := .agg #[.int .i64 (p + r), .int .i64 (q + s)]) (by simp [results, Tryz.results124, go_sem]) rfl ⟨rfl, by repeat (first | exact pr | refine pa ?_ | refine pd ?_)⟩

theorem limb_0 (n : Int) (hn : Sm 1000000 n) (w : World) :
    Calls Tryz.prog 125 #[.agg #[.int .i64 n, .int .i64 0], .int .i64 3] w fun e w' => e = .returned (.agg #[.int .i64 n, .int .i64 0]) ∧ Below w.heap.size w w' := by
  have h := turned_0 n 0 hn ⟨by decide, by decide⟩ w
  simpa [turnN, turn1] using h
theorem limb_1 (n : Int) (hn : Sm 1000000 n) (w : World) :
    Calls Tryz.prog 125 #[.agg #[.int .i64 n, .int .i64 0], .int .i64 2] w fun e w' => e = .returned (.agg #[.int .i64 (-n), .int .i64 (-n)]) ∧ Below w.heap.size w w' := by
  have h := turned_2 n 0 hn ⟨by decide, by decide⟩ w
  simpa [turnN, turn1] using h
theorem limb_2 (n : Int) (hn : Sm 1000000 n) (w : World) :
    Calls Tryz.prog 125 #[.agg #[.int .i64 n, .int .i64 0], .int .i64 1] w fun e w' => e = .returned (.agg #[.int .i64 0, .int .i64 n]) ∧ Below w.heap.size w w' := by
  have h := turned_1 n 0 hn ⟨by decide, by decide⟩ w
  simpa [turnN, turn1] using h
/-- The row of nine numbers. -/
def flat (l : L3) : Value := .agg #[.int .i64 l.x.a, .int .i64 l.x.b, .int .i64 l.x.c, .int .i64 l.y.a, .int .i64 l.y.b, .int .i64 l.y.c, .int .i64 l.z.a, .int .i64 l.z.b, .int .i64 l.z.c]

theorem i3_at0 (a b c : Int) (W : World) : Sem.run Tryz.prog (Instr.index 94 (.agg #[.int .i64 a, .int .i64 b, .int .i64 c]) (.int .i64 0)) W = .ok (.int .i64 a) W := by kernel_rfl
theorem i3_at1 (a b c : Int) (W : World) : Sem.run Tryz.prog (Instr.index 94 (.agg #[.int .i64 a, .int .i64 b, .int .i64 c]) (.int .i64 1)) W = .ok (.int .i64 b) W := by kernel_rfl
theorem i3_at2 (a b c : Int) (W : World) : Sem.run Tryz.prog (Instr.index 94 (.agg #[.int .i64 a, .int .i64 b, .int .i64 c]) (.int .i64 2)) W = .ok (.int .i64 c) W := by kernel_rfl
attribute [local go_sem] i3_at0 i3_at1 i3_at2

set_option maxHeartbeats 4000000 in
set_option maxRecDepth 100000 in
theorem linesPhasor_0 (a b c d e f g h i : Int) (ha : Sm 10000 a) (hb : Sm 10000 b) (hc : Sm 10000 c) (w : World) :
    Calls Tryz.prog 80 #[.agg #[.int .i64 a, .int .i64 b, .int .i64 c, .int .i64 d, .int .i64 e, .int .i64 f, .int .i64 g, .int .i64 h, .int .i64 i], .int .i64 0] w
      fun r w' => r = .returned (.agg #[.int .i64 (a - b), .int .i64 (c - b)]) ∧ Below w.heap.size w w' := by
  have sm : ∀ x, Sm 10000 x → Sm 1000000 x := fun x hx => by unfold Sm at *; omega
  have q3 : IntKind.i64.wrap 3 = 3 := by decide
  have q2 : IntKind.i64.wrap 2 = 2 := by decide
  have q1 : IntKind.i64.wrap 1 = 1 := by decide
  have hbn : Sm 10000 (-b) := by unfold Sm at *; omega
  have sz : Sm 1000000 0 := ⟨by decide, by decide⟩
  go_enter Tryz.func80, Tryz.ntmps80
  go_wp2
  refine wp_loop_rounds 4 ?_
  rw [rounds_succ]
  go_wp2
  refine region_below 7 follows_mixed (by kernel_rfl) ?_
  intro C hC
  simp only [List.take_succ_cons, List.take_zero, List.drop_succ_cons, List.drop_zero]
  repeat (first
    | ((with_reducible refine quiet_plain rfl (fun K hK => ?_)); (focus (apply quiet_val; (focus (intro w' hw; obtain ⟨hcq, hfq⟩ := bcell ((hC.out _).1 hw); go_simp; (first | done | rfl | (with_reducible exact call_below hC hw (limb_0 _ (sm _ ha) _)) | (with_reducible exact call_below hC hw (plus_any _ _ _ _ sz sz (sm _ ha) sz _))))); (simp only [Act.put, List.setIfInBounds_toArray, List.set_cons_succ, List.set_cons_zero]); (with_reducible refine hK _ ?_); clear hK K)))
    | ((with_reducible refine quiet_skip ?_ ?_); (focus (first | (simp [Region.wanted, yielded]; done) | (simp [Region.wanted, yielded, undef]; done))); simp only [Act.put, List.setIfInBounds_toArray, List.set_cons_succ, List.set_cons_zero])
    | ((with_reducible refine quiet_go ?_ (fun K hK => ?_)); (focus (first | (simp [Region.wanted, yielded]; done) | (simp [Region.wanted, yielded, undef]; done))); (focus (apply quiet_val; (focus (intro w' hw; obtain ⟨hcq, hfq⟩ := bcell ((hC.out _).1 hw); go_simp; (first | done | rfl | (with_reducible exact call_below hC hw (limb_0 _ (sm _ ha) _)) | (with_reducible exact call_below hC hw (plus_any _ _ _ _ sz sz (sm _ ha) sz _))))); (simp only [Act.put, List.setIfInBounds_toArray, List.set_cons_succ, List.set_cons_zero]); (with_reducible refine hK _ ?_); clear hK K))))
  refine wpQuiet_nil ?_
  intro w1 hb1
  replace hb1 := (hC.out _).1 hb1
  clear hC C
  obtain ⟨hc1, hf1⟩ := bcell hb1
  go_wp2
  have B1 : Blk ((w1.setCell ⟨w.heap.size + 1 + 1, 0, none⟩ (.int .i64 a)).setCell ⟨w.heap.size + 1 + 1, 1, none⟩ (.int .i64 0)) (w.heap.size + 1 + 1) 157 #[.int .i64 a, .int .i64 0] := (((Blk.newAt (by simp)).past hb1).set_ 0 _).set_ 1 _
  have S1 : Below w.heap.size w ((w1.setCell ⟨w.heap.size + 1 + 1, 0, none⟩ (.int .i64 a)).setCell ⟨w.heap.size + 1 + 1, 1, none⟩ (.int .i64 0)) := ps (ps (pt (pa (pa (pa pr))) hb1) (by simp; omega)) (by simp; omega)
  have R1 : Blk ((w1.setCell ⟨w.heap.size + 1 + 1, 0, none⟩ (.int .i64 a)).setCell ⟨w.heap.size + 1 + 1, 1, none⟩ (.int .i64 0)) (w.heap.size + 1) 157 #[.int .i64 0, .int .i64 0] := (((Blk.newAt (by simp)).alloc.past hb1).far (by simp)).far (by simp)
  generalize (w1.setCell ⟨w.heap.size + 1 + 1, 0, none⟩ (.int .i64 a)).setCell ⟨w.heap.size + 1 + 1, 1, none⟩ (.int .i64 0) = W1 at *
  clear hb1 hc1 hf1
  have c0 := B1.cellAt 0 rfl
  have c1 := B1.cellAt 1 rfl
  have f0 := B1.frozen 0
  have f1 := B1.frozen 1
  have l1 := B1.lt
  rw [rounds_succ]
  go_wp2
  refine region_below 7 follows_mixed (by kernel_rfl) ?_
  intro C hC
  simp only [List.take_succ_cons, List.take_zero, List.drop_succ_cons, List.drop_zero]
  repeat (first
    | ((with_reducible refine quiet_plain rfl (fun K hK => ?_)); (focus (apply quiet_val; (focus (intro w' hw; obtain ⟨hcq, hfq⟩ := bcell ((hC.out _).1 hw); go_simp; (first | done | rfl | (with_reducible exact call_below hC hw (limb_1 _ (sm _ hb) _)) | (with_reducible exact call_below hC hw (plus_any _ _ _ _ (sm _ ha) sz (sm _ hbn) (sm _ hbn) _))))); (simp only [Act.put, List.setIfInBounds_toArray, List.set_cons_succ, List.set_cons_zero]); (with_reducible refine hK _ ?_); clear hK K)))
    | ((with_reducible refine quiet_skip ?_ ?_); (focus (first | (simp [Region.wanted, yielded]; done) | (simp [Region.wanted, yielded, undef]; done))); simp only [Act.put, List.setIfInBounds_toArray, List.set_cons_succ, List.set_cons_zero])
    | ((with_reducible refine quiet_go ?_ (fun K hK => ?_)); (focus (first | (simp [Region.wanted, yielded]; done) | (simp [Region.wanted, yielded, undef]; done))); (focus (apply quiet_val; (focus (intro w' hw; obtain ⟨hcq, hfq⟩ := bcell ((hC.out _).1 hw); go_simp; (first | done | rfl | (with_reducible exact call_below hC hw (limb_1 _ (sm _ hb) _)) | (with_reducible exact call_below hC hw (plus_any _ _ _ _ (sm _ ha) sz (sm _ hbn) (sm _ hbn) _))))); (simp only [Act.put, List.setIfInBounds_toArray, List.set_cons_succ, List.set_cons_zero]); (with_reducible refine hK _ ?_); clear hK K))))
  refine wpQuiet_nil ?_
  intro w1 hb1
  replace hb1 := (hC.out _).1 hb1
  clear hC C
  obtain ⟨hc1, hf1⟩ := bcell hb1
  go_wp2
  have B2 : Blk ((w1.setCell ⟨w.heap.size + 1 + 1, 0, none⟩ (.int .i64 (a + -b))).setCell ⟨w.heap.size + 1 + 1, 1, none⟩ (.int .i64 (-b))) (w.heap.size + 1 + 1) 157 #[.int .i64 (a + -b), .int .i64 (-b)] := ((B1.past hb1).set_ 0 _).set_ 1 _
  have S2 : Below w.heap.size w ((w1.setCell ⟨w.heap.size + 1 + 1, 0, none⟩ (.int .i64 (a + -b))).setCell ⟨w.heap.size + 1 + 1, 1, none⟩ (.int .i64 (-b))) := ps (ps (pt S1 hb1) (by simp; omega)) (by simp; omega)
  have R2 : Blk ((w1.setCell ⟨w.heap.size + 1 + 1, 0, none⟩ (.int .i64 (a + -b))).setCell ⟨w.heap.size + 1 + 1, 1, none⟩ (.int .i64 (-b))) (w.heap.size + 1) 157 #[.int .i64 0, .int .i64 0] := ((R1.past hb1).far (by simp)).far (by simp)
  generalize (w1.setCell ⟨w.heap.size + 1 + 1, 0, none⟩ (.int .i64 (a + -b))).setCell ⟨w.heap.size + 1 + 1, 1, none⟩ (.int .i64 (-b)) = W2 at *
  clear hb1 hc1 hf1 c0 c1 f0 f1 l1 B1 S1
  have hab : Sm 1000000 (a + -b) := by unfold Sm at *; omega
  have c0 := B2.cellAt 0 rfl
  have c1 := B2.cellAt 1 rfl
  have f0 := B2.frozen 0
  have f1 := B2.frozen 1
  have l1 := B2.lt
  rw [rounds_succ]
  go_wp2
  refine region_below 7 follows_mixed (by kernel_rfl) ?_
  intro C hC
  simp only [List.take_succ_cons, List.take_zero, List.drop_succ_cons, List.drop_zero]
  repeat (first
    | ((with_reducible refine quiet_plain rfl (fun K hK => ?_)); (focus (apply quiet_val; (focus (intro w' hw; obtain ⟨hcq, hfq⟩ := bcell ((hC.out _).1 hw); go_simp; (first | done | rfl | (with_reducible exact call_below hC hw (limb_2 _ (sm _ hc) _)) | (with_reducible exact call_below hC hw (plus_any _ _ _ _ hab (sm _ hbn) sz (sm _ hc) _))))); (simp only [Act.put, List.setIfInBounds_toArray, List.set_cons_succ, List.set_cons_zero]); (with_reducible refine hK _ ?_); clear hK K)))
    | ((with_reducible refine quiet_skip ?_ ?_); (focus (first | (simp [Region.wanted, yielded]; done) | (simp [Region.wanted, yielded, undef]; done))); simp only [Act.put, List.setIfInBounds_toArray, List.set_cons_succ, List.set_cons_zero])
    | ((with_reducible refine quiet_go ?_ (fun K hK => ?_)); (focus (first | (simp [Region.wanted, yielded]; done) | (simp [Region.wanted, yielded, undef]; done))); (focus (apply quiet_val; (focus (intro w' hw; obtain ⟨hcq, hfq⟩ := bcell ((hC.out _).1 hw); go_simp; (first | done | rfl | (with_reducible exact call_below hC hw (limb_2 _ (sm _ hc) _)) | (with_reducible exact call_below hC hw (plus_any _ _ _ _ hab (sm _ hbn) sz (sm _ hc) _))))); (simp only [Act.put, List.setIfInBounds_toArray, List.set_cons_succ, List.set_cons_zero]); (with_reducible refine hK _ ?_); clear hK K))))
  refine wpQuiet_nil ?_
  intro w1 hb1
  replace hb1 := (hC.out _).1 hb1
  clear hC C
  obtain ⟨hc1, hf1⟩ := bcell hb1
  have B3 := B2.past hb1
  have l3 := B3.lt
  have S3 := pt S2 hb1
  have R3 := R2.past hb1
  have rc0 := R3.cellAt 0 rfl
  have rc1 := R3.cellAt 1 rfl
  have rf0 := R3.frozen 0
  have rf1 := R3.frozen 1
  have rl := R3.lt
  go_wp2
  rw [rounds_succ]
  go_wp2
  exact bodyPost_ret (v := .agg #[.int .i64 (a - b), .int .i64 (c - b)]) (by simp [results, Tryz.results80, go_sem, rc0, rc1]; try omega) rfl ⟨rfl, by repeat (first | exact S3 | refine ps ?_ (by first | (simp; done) | (simp; omega)) | refine pd ?_)⟩
end Go.Proofs.YtpdkbhjcpddnpaaGreatDoor
end

section
namespace Go.Proofs.YtpdkbhjcpddnpaaGreatDoor
open Go.RowKit
attribute [local go_sem ↓] Go.wp_at_zero Go.wp_at_succ

/-- The table of patterns stands where the package laid it. -/
def patC (i : Nat) : Value := [.string ⟨#[121]⟩, .int .i64 1, .int .i64 (-1), .int .i64 0, .string ⟨#[100]⟩, .int .i64 1, .int .i64 0, .int .i64 0, .string ⟨#[122]⟩, .int .i64 1, .int .i64 (-2), .int .i64 1].getD i (.int .i64 0)
def PatIn (w : World) : Prop := 0 < w.heap.size ∧ ∀ i, i < 12 → w.cell? ⟨0, i, none⟩ = some (patC i)
theorem PatIn.below {w w' : World} (h : PatIn w) (hb : Below w.heap.size w w') : PatIn w' := ⟨Nat.lt_of_lt_of_le h.1 hb.size, fun i hi => ((bcell hb).1 _ _ h.1).trans (h.2 i hi)⟩

def sgnT (t : Int) (r : Bool) : Int := if r then -t else t

theorem signed_any (k t s : Int) (r : Bool) (ht : Sm 1000000 t) (w : World) :
    Calls Tryz.prog 121 #[.agg #[.int .i64 k, .int .i64 t, .int .i64 s, .bool r]] w fun e w' => e = .returned (.int .i64 (sgnT t r)) ∧ Below w.heap.size w w' := by
  unfold Sm at ht
  cases r
  all_goals
    go_enter Tryz.func121, Tryz.ntmps121
    go_wp2
    go_ret
    exact ⟨rfl, pa pr⟩


end Go.Proofs.YtpdkbhjcpddnpaaGreatDoor
end
