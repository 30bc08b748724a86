/- Contract of renamedClock. Printed by a program (gen_renclock.py).
Contract of the specification's NewClock. Printed by a program (gen_newclock.py).
Contract of the specification's Permutations: a new slice of six renamings.
Contract of the specification's Match, where the ratios are near: the first pair of pairL. Printed by a program (gen_refmatch.py). -/
import Derived.Test.YtnhcamokcggnkaaGreatDoorN5
import Derived.Test.YtnhcamokcggnkaaGreatDoorN3
import Derived.Test.YtnhcamokcggnkaaGreatDoorGEExp
import Derived.Test.YtnhcamokcggnkaaGreatDoorN4
import Derived.Test.YtnhcamokcggnkaaGreatDoorGZLow

section
namespace Go.Proofs.YtnhcamokcggnkaaGreatDoor
open Go.RowKit
attribute [local go_sem ↓] Go.wp_at_zero Go.wp_at_succ

theorem glines_size : (Tryz.prog.info? 149).map (·.size) = some 9 := by kernel_rfl
def NineSm (m : Int) (l : L3) : Prop := (Sm m l.x.a ∧ Sm m l.x.b ∧ Sm m l.x.c) ∧ (Sm m l.y.a ∧ Sm m l.y.b ∧ Sm m l.y.c) ∧ (Sm m l.z.a ∧ Sm m l.z.b ∧ Sm m l.z.c)
theorem ren_sm {m : Int} {l : L3} (h : NineSm m l) {p : V3} (hp : isPerm p = true) : NineSm m (renV l p) := by
  obtain ⟨⟨h1, h2, h3⟩, ⟨h4, h5, h6⟩, ⟨h7, h8, h9⟩⟩ := h
  rcases isPerm_cases hp with rfl | rfl | rfl | rfl | rfl | rfl <;>
    simp [NineSm, renV, voltV, rowAt, negV] <;> unfold Sm at * <;> omega
theorem seqP_one (p : V3) : seqP p = 1 ∨ seqP p = -1 := by unfold seqP; split <;> simp

/-- What the renamed lines of a winding are worth: contracts, bundled. -/
structure RenC (k t s : Int) (r : Bool) (p : V3) (L M : L3) : Prop where
  lines : ∀ w, PatIn w → Calls Tryz.prog 91 #[.agg #[.int .i64 k, .int .i64 t, .int .i64 s, .bool r]] w fun e w' => e = .returned (.agg #[.int .i64 L.x.a, .int .i64 L.x.b, .int .i64 L.x.c, .int .i64 L.y.a, .int .i64 L.y.b, .int .i64 L.y.c, .int .i64 L.z.a, .int .i64 L.z.b, .int .i64 L.z.c]) ∧ Below w.heap.size w w'
  ren : ∀ w, Calls Tryz.prog 85 #[.agg #[.int .i64 L.x.a, .int .i64 L.x.b, .int .i64 L.x.c, .int .i64 L.y.a, .int .i64 L.y.b, .int .i64 L.y.c, .int .i64 L.z.a, .int .i64 L.z.b, .int .i64 L.z.c], .agg #[.int .i64 p.a, .int .i64 p.b, .int .i64 p.c]] w fun e w' => e = .returned (.agg #[.int .i64 M.x.a, .int .i64 M.x.b, .int .i64 M.x.c, .int .i64 M.y.a, .int .i64 M.y.b, .int .i64 M.y.c, .int .i64 M.z.a, .int .i64 M.z.b, .int .i64 M.z.c]) ∧ Below w.heap.size w w'
  hour : ∀ w, TwIn w → Calls Tryz.prog 94 #[.agg #[.int .i64 M.x.a, .int .i64 M.x.b, .int .i64 M.x.c, .int .i64 M.y.a, .int .i64 M.y.b, .int .i64 M.y.c, .int .i64 M.z.a, .int .i64 M.z.b, .int .i64 M.z.c]] w fun e w' => e = .returned (.int .i64 ((whV k s r + addP p) % 12)) ∧ Below w.heap.size w w'
  seq : ∀ w, Calls Tryz.prog 88 #[.agg #[.int .i64 M.x.a, .int .i64 M.x.b, .int .i64 M.x.c, .int .i64 M.y.a, .int .i64 M.y.b, .int .i64 M.y.c, .int .i64 M.z.a, .int .i64 M.z.b, .int .i64 M.z.c]] w fun e w' => e = .returned (.int .i64 (seqP p)) ∧ Below w.heap.size w w'

theorem renC_of {k t s : Int} {r : Bool} (hu : (Wind.mk k t s r).ok) {p : V3} (hp : isPerm p = true) : ∃ L M, RenC k t s r p L M := by
  refine ⟨linesV ⟨k, t, s, r⟩, renV (linesV ⟨k, t, s, r⟩) p, ?_⟩
  obtain ⟨s1, s2, s3, s4, s5, s6, s7, s8, s9⟩ := linesV_sm hu
  have up : ∀ {x : Int}, Sm 4000 x → Sm 10000 x := fun h => by unfold Sm at *; omega
  have hN : NineSm 10000 (linesV ⟨k, t, s, r⟩) := ⟨⟨up s1, up s2, up s3⟩, ⟨up s4, up s5, up s6⟩, ⟨up s7, up s8, up s9⟩⟩
  obtain ⟨⟨r1, r2, r3⟩, ⟨r4, r5, r6⟩, ⟨r7, r8, r9⟩⟩ := ren_sm hN hp
  have hh := ren_hours hu hp
  have hs := ren_seq hu hp
  refine ⟨fun w hP => lines_any k t s r hu _ rfl w hP, fun w => ?_, fun w hT => ?_, fun w => ?_⟩
  · exact renamed_any _ _ _ _ _ _ _ _ _ p.a p.b p.c hp (lineE_of hN.1.1 hN.1.2.1 hN.1.2.2 hN.2.1.1 hN.2.1.2.1 hN.2.1.2.2 hN.2.2.1 hN.2.2.2.1 hN.2.2.2.2) _ rfl w
  · have h := hourOf_any _ _ _ (renV (linesV ⟨k, t, s, r⟩) p).y.a (renV (linesV ⟨k, t, s, r⟩) p).y.b (renV (linesV ⟨k, t, s, r⟩) p).y.c (renV (linesV ⟨k, t, s, r⟩) p).z.a (renV (linesV ⟨k, t, s, r⟩) p).z.b (renV (linesV ⟨k, t, s, r⟩) p).z.c r1 r2 r3 w hT
    unfold phP phQ at hh
    rw [hh] at h
    exact h
  · have h := sequence_any (renV (linesV ⟨k, t, s, r⟩) p) r1 r2 r3 r4 r5 r6 r7 r8 r9 w
    rw [hs] at h
    exact h

set_option maxHeartbeats 8000000 in
set_option maxRecDepth 100000 in
theorem renamedClock_any (k t s : Int) (r : Bool) (k2 t2 s2 : Int) (r2 : Bool) (n : Int) (a b c d e f : Int) (hu : (Wind.mk k t s r).ok) (hu2 : (Wind.mk k2 t2 s2 r2).ok) (hp : isPerm ⟨a, b, c⟩ = true) (hq : isPerm ⟨d, e, f⟩ = true) (w : World) (hT : TwIn w) (hP : PatIn w) :
    Calls Tryz.prog 79 #[.agg #[.int .i64 k, .int .i64 t, .int .i64 s, .bool r, .int .i64 k2, .int .i64 t2, .int .i64 s2, .bool r2, .int .i64 n], .agg #[.int .i64 a, .int .i64 b, .int .i64 c, .int .i64 d, .int .i64 e, .int .i64 f]] w fun z w' =>
      z = .returned (.tuple #[.int .i64 (((whV k s r + addP ⟨a, b, c⟩) % 12 - (whV k2 s2 r2 + addP ⟨d, e, f⟩) % 12) * seqP ⟨a, b, c⟩ % 12), .bool (seqP ⟨a, b, c⟩ == seqP ⟨d, e, f⟩)]) ∧ Below w.heap.size w w' := by
  obtain ⟨L, A, hA⟩ := renC_of hu hp
  obtain ⟨K, B, hB⟩ := renC_of hu2 hq
  obtain ⟨hL, hR, hH, hS⟩ := hA
  obtain ⟨hL', hR', hH', hS'⟩ := hB
  dsimp only at hR hR'
  have hs := seqP_one ⟨a, b, c⟩
  generalize seqP ⟨a, b, c⟩ = P at *
  generalize seqP ⟨d, e, f⟩ = Q at *
  have g1 : 0 ≤ (whV k s r + addP ⟨a, b, c⟩) % 12 ∧ (whV k s r + addP ⟨a, b, c⟩) % 12 < 12 := by omega
  have g2 : 0 ≤ (whV k2 s2 r2 + addP ⟨d, e, f⟩) % 12 ∧ (whV k2 s2 r2 + addP ⟨d, e, f⟩) % 12 < 12 := by omega
  generalize (whV k s r + addP ⟨a, b, c⟩) % 12 = x at *
  generalize (whV k2 s2 r2 + addP ⟨d, e, f⟩) % 12 = y at *
  have w1 : IntKind.i64.wrap (x - y) = x - y := IntWalk.i64_in _ (by omega)
  have w2 : IntKind.i64.wrap ((x - y) * P) = (x - y) * P := IntWalk.i64_in _ (by rcases hs with rfl | rfl <;> omega)
  have HL := Lib.hid hL
  have HR := Lib.hid hR
  have HH := Lib.hid hH
  have HS := Lib.hid hS
  have HL' := Lib.hid hL'
  have HR' := Lib.hid hR'
  have HH' := Lib.hid hH'
  have HS' := Lib.hid hS'
  have HM := Lib.hid (mod_any ((x - y) * P))
  have HT := Lib.hid (fun w' (h : Below w.heap.size w w') => hT.below h)
  have HP := Lib.hid (fun w' (h : Below w.heap.size w w') => hP.below h)
  clear hu hu2 hp hq hT hP hL hR hH hS hL' hR' hH' hS' hs g1 g2
  go_enter Tryz.func79, Tryz.ntmps79
  go_wp2
  refine region_allocC2 (zc1 := (.cells #[.int .i64 0, .int .i64 0, .int .i64 0, .int .i64 0, .int .i64 0, .int .i64 0, .int .i64 0, .int .i64 0, .int .i64 0] 149)) (zc2 := (.cells #[.int .i64 0, .int .i64 0, .int .i64 0, .int .i64 0, .int .i64 0, .int .i64 0, .int .i64 0, .int .i64 0, .int .i64 0] 149)) 12 follows_mixed (by kernel_rfl) rfl rfl (fun _ _ => by kernel_rfl) (fun _ _ => by kernel_rfl) ?_
  simp only [List.take_succ_cons, List.take_zero, List.drop_succ_cons, List.drop_zero]
  repeat (first
    | ((with_reducible apply grow_plain); (focus rfl); (focus (intro w' hw; obtain ⟨hcq, hfq⟩ := bcell hw; go_simp; (first | done | rfl | (with_reducible exact HL.out _ (HP.out _ (pt (pa (pa pr)) hw))) | (with_reducible exact HR.out _) | (with_reducible exact HL'.out _ (HP.out _ (pt (pa (pa pr)) hw))) | (with_reducible exact HR'.out _)))); (simp only [Act.put, List.setIfInBounds_toArray, List.set_cons_succ, List.set_cons_zero]))
    | ((with_reducible apply grow_skip); (focus (first | (simp [Region.wanted, yielded]; done) | (simp [Region.wanted, yielded, undef]; done))); simp only [Act.put, List.setIfInBounds_toArray, List.set_cons_succ, List.set_cons_zero])
    | ((with_reducible apply grow_go); (focus (first | (simp [Region.wanted, yielded]; done) | (simp [Region.wanted, yielded, undef]; done))); (focus (intro w' hw; obtain ⟨hcq, hfq⟩ := bcell hw; go_simp; (first | done | rfl | (with_reducible exact HL.out _ (HP.out _ (pt (pa (pa pr)) hw))) | (with_reducible exact HR.out _) | (with_reducible exact HL'.out _ (HP.out _ (pt (pa (pa pr)) hw))) | (with_reducible exact HR'.out _)))); (simp only [Act.put, List.setIfInBounds_toArray, List.set_cons_succ, List.set_cons_zero])))
  refine grow_nil ?_
  intro qb1 qb2 w1 hb1 hn1 hn2 hq12
  simp only [Act.put, List.setIfInBounds_toArray, List.set_cons_succ, List.set_cons_zero]
  have A_1 : Blk w1 qb1 149 #[.int .i64 0, .int .i64 0, .int .i64 0, .int .i64 0, .int .i64 0, .int .i64 0, .int .i64 0, .int .i64 0, .int .i64 0] := hn1.at_
  have ge_A : w.heap.size ≤ qb1 := by have := hn1.ge; simp at this; omega
  have B_1 : Blk w1 qb2 149 #[.int .i64 0, .int .i64 0, .int .i64 0, .int .i64 0, .int .i64 0, .int .i64 0, .int .i64 0, .int .i64 0, .int .i64 0] := hn2.at_
  have ge_B : w.heap.size ≤ qb2 := by have := hn2.ge; simp at this; omega
  have S_1 := pt (pa (pa pr)) hb1
  have ne_A_B := hq12
  clear hb1 hn1 hn2 hq12
  go_wp2_with (first
    | ((with_reducible refine store_sub (T := 149) (x := .tmp 6) (y := .tmp 14) (o := 0) (cs' := #[.int .i64 A.x.a, .int .i64 A.x.b, .int .i64 A.x.c, .int .i64 A.y.a, .int .i64 A.y.b, .int .i64 A.y.c, .int .i64 A.z.a, .int .i64 A.z.b, .int .i64 A.z.c]) (vs := #[.int .i64 A.x.a, .int .i64 A.x.b, .int .i64 A.x.c, .int .i64 A.y.a, .int .i64 A.y.b, .int .i64 A.y.c, .int .i64 A.z.a, .int .i64 A.z.b, .int .i64 A.z.c]) (show Blk _ (qb1) 149 #[.int .i64 0, .int .i64 0, .int .i64 0, .int .i64 0, .int .i64 0, .int .i64 0, .int .i64 0, .int .i64 0, .int .i64 0] from (A_1)) ?_ ?_ ?_ ?_ ?_ ?_ ?_); (focus rfl); (focus rfl); (focus rfl); (focus exact Nat.le_of_ble_eq_true rfl); (focus exact glines_size); (focus (simp [Value.oneCell']; done)); intro w2_ b2_ h2_; have A_2 : Blk w2_ (qb1) 149 #[.int .i64 A.x.a, .int .i64 A.x.b, .int .i64 A.x.c, .int .i64 A.y.a, .int .i64 A.y.b, .int .i64 A.y.c, .int .i64 A.z.a, .int .i64 A.z.b, .int .i64 A.z.c] := b2_; have B_2 : Blk w2_ (qb2) 149 #[.int .i64 0, .int .i64 0, .int .i64 0, .int .i64 0, .int .i64 0, .int .i64 0, .int .i64 0, .int .i64 0, .int .i64 0] := (B_1).put h2_ (Ne.symm ne_A_B); have S_2 := pp (S_1) h2_ ge_A; clear A_1 B_1 S_1; clear h2_ b2_)
    | ((with_reducible refine store_sub (T := 149) (x := .tmp 7) (y := .tmp 20) (o := 0) (cs' := #[.int .i64 B.x.a, .int .i64 B.x.b, .int .i64 B.x.c, .int .i64 B.y.a, .int .i64 B.y.b, .int .i64 B.y.c, .int .i64 B.z.a, .int .i64 B.z.b, .int .i64 B.z.c]) (vs := #[.int .i64 B.x.a, .int .i64 B.x.b, .int .i64 B.x.c, .int .i64 B.y.a, .int .i64 B.y.b, .int .i64 B.y.c, .int .i64 B.z.a, .int .i64 B.z.b, .int .i64 B.z.c]) (show Blk _ (qb2) 149 #[.int .i64 0, .int .i64 0, .int .i64 0, .int .i64 0, .int .i64 0, .int .i64 0, .int .i64 0, .int .i64 0, .int .i64 0] from (B_2)) ?_ ?_ ?_ ?_ ?_ ?_ ?_); (focus rfl); (focus rfl); (focus rfl); (focus exact Nat.le_of_ble_eq_true rfl); (focus exact glines_size); (focus (simp [Value.oneCell']; done)); intro w3_ b3_ h3_; have A_3 : Blk w3_ (qb1) 149 #[.int .i64 A.x.a, .int .i64 A.x.b, .int .i64 A.x.c, .int .i64 A.y.a, .int .i64 A.y.b, .int .i64 A.y.c, .int .i64 A.z.a, .int .i64 A.z.b, .int .i64 A.z.c] := (A_2).put h3_ ne_A_B; have B_3 : Blk w3_ (qb2) 149 #[.int .i64 B.x.a, .int .i64 B.x.b, .int .i64 B.x.c, .int .i64 B.y.a, .int .i64 B.y.b, .int .i64 B.y.c, .int .i64 B.z.a, .int .i64 B.z.b, .int .i64 B.z.c] := b3_; have S_3 := pp (S_2) h3_ ge_B; clear A_2 B_2 S_2; have Ac0 := A_3.cellAt 0 rfl; have Ac1 := A_3.cellAt 1 rfl; have Ac2 := A_3.cellAt 2 rfl; have Ac3 := A_3.cellAt 3 rfl; have Ac4 := A_3.cellAt 4 rfl; have Ac5 := A_3.cellAt 5 rfl; have Ac6 := A_3.cellAt 6 rfl; have Ac7 := A_3.cellAt 7 rfl; have Ac8 := A_3.cellAt 8 rfl; have Al := A_3.lt; have Bc0 := B_3.cellAt 0 rfl; have Bc1 := B_3.cellAt 1 rfl; have Bc2 := B_3.cellAt 2 rfl; have Bc3 := B_3.cellAt 3 rfl; have Bc4 := B_3.cellAt 4 rfl; have Bc5 := B_3.cellAt 5 rfl; have Bc6 := B_3.cellAt 6 rfl; have Bc7 := B_3.cellAt 7 rfl; have Bc8 := B_3.cellAt 8 rfl; have Bl := B_3.lt; clear h3_ b3_))
  refine region_below 5 follows_mixed (by kernel_rfl) ?_
  intro C hC
  simp only [List.take_succ_cons, List.take_zero, List.drop_succ_cons, List.drop_zero]
  repeat (first
    | ((with_reducible refine quiet_plain rfl (fun K hK => ?_)); (focus (apply quiet_val; (focus (intro w' hw; obtain ⟨hcq, hfq⟩ := bcell ((hC.out _).1 hw); go_simp; (first | done | rfl | (with_reducible exact call_below hC hw (HH.out _ (HT.out _ (pt S_3 ((hC.out _).1 hw))))) | (with_reducible exact call_below hC hw (HH'.out _ (HT.out _ (pt S_3 ((hC.out _).1 hw)))))))); (simp only [Act.put, List.setIfInBounds_toArray, List.set_cons_succ, List.set_cons_zero]); (with_reducible refine hK _ ?_); clear hK K)))
    | ((with_reducible refine quiet_skip ?_ ?_); (focus (first | (simp [Region.wanted, yielded]; done) | (simp [Region.wanted, yielded, undef]; done))); simp only [Act.put, List.setIfInBounds_toArray, List.set_cons_succ, List.set_cons_zero])
    | ((with_reducible refine quiet_go ?_ (fun K hK => ?_)); (focus (first | (simp [Region.wanted, yielded]; done) | (simp [Region.wanted, yielded, undef]; done))); (focus (apply quiet_val; (focus (intro w' hw; obtain ⟨hcq, hfq⟩ := bcell ((hC.out _).1 hw); go_simp; (first | done | rfl | (with_reducible exact call_below hC hw (HH.out _ (HT.out _ (pt S_3 ((hC.out _).1 hw))))) | (with_reducible exact call_below hC hw (HH'.out _ (HT.out _ (pt S_3 ((hC.out _).1 hw)))))))); (simp only [Act.put, List.setIfInBounds_toArray, List.set_cons_succ, List.set_cons_zero]); (with_reducible refine hK _ ?_); clear hK K))))
  refine wpQuiet_nil ?_
  intro w1 hb1
  replace hb1 := (hC.out _).1 hb1
  clear hC C
  obtain ⟨hc1, hf1⟩ := bcell hb1
  have A_4 := A_3.past hb1
  have B_4 := B_3.past hb1
  have S_4 := pt S_3 hb1
  clear hc1 hf1 hb1
  clear A_3 B_3 S_3 Ac0 Bc0 Ac1 Bc1 Ac2 Bc2 Ac3 Bc3 Ac4 Bc4 Ac5 Bc5 Ac6 Bc6 Ac7 Bc7 Ac8 Bc8 Al Bl
  have Ac0 := A_4.cellAt 0 rfl
  have Ac1 := A_4.cellAt 1 rfl
  have Ac2 := A_4.cellAt 2 rfl
  have Ac3 := A_4.cellAt 3 rfl
  have Ac4 := A_4.cellAt 4 rfl
  have Ac5 := A_4.cellAt 5 rfl
  have Ac6 := A_4.cellAt 6 rfl
  have Ac7 := A_4.cellAt 7 rfl
  have Ac8 := A_4.cellAt 8 rfl
  have Al := A_4.lt
  have Bc0 := B_4.cellAt 0 rfl
  have Bc1 := B_4.cellAt 1 rfl
  have Bc2 := B_4.cellAt 2 rfl
  have Bc3 := B_4.cellAt 3 rfl
  have Bc4 := B_4.cellAt 4 rfl
  have Bc5 := B_4.cellAt 5 rfl
  have Bc6 := B_4.cellAt 6 rfl
  have Bc7 := B_4.cellAt 7 rfl
  have Bc8 := B_4.cellAt 8 rfl
  have Bl := B_4.lt
  obtain ⟨w4_, rfl⟩ : ∃ v, v = w1 := ⟨_, rfl⟩
  go_wp2
  refine region_below 11 follows_mixed (by kernel_rfl) ?_
  intro C hC
  simp only [List.take_succ_cons, List.take_zero, List.drop_succ_cons, List.drop_zero]
  repeat (first
    | ((with_reducible refine quiet_plain rfl (fun K hK => ?_)); (focus (apply quiet_val; (focus (intro w' hw; obtain ⟨hcq, hfq⟩ := bcell ((hC.out _).1 hw); go_simp; (first | done | rfl | (with_reducible exact call_below hC hw (HS.out _)) | (with_reducible exact call_same hw (HM.out _)) | (with_reducible exact call_below hC hw (HS'.out _))))); (simp only [Act.put, List.setIfInBounds_toArray, List.set_cons_succ, List.set_cons_zero]); (with_reducible refine hK _ ?_); clear hK K)))
    | ((with_reducible refine quiet_skip ?_ ?_); (focus (first | (simp [Region.wanted, yielded]; done) | (simp [Region.wanted, yielded, undef]; done))); simp only [Act.put, List.setIfInBounds_toArray, List.set_cons_succ, List.set_cons_zero])
    | ((with_reducible refine quiet_go ?_ (fun K hK => ?_)); (focus (first | (simp [Region.wanted, yielded]; done) | (simp [Region.wanted, yielded, undef]; done))); (focus (apply quiet_val; (focus (intro w' hw; obtain ⟨hcq, hfq⟩ := bcell ((hC.out _).1 hw); go_simp; (first | done | rfl | (with_reducible exact call_below hC hw (HS.out _)) | (with_reducible exact call_same hw (HM.out _)) | (with_reducible exact call_below hC hw (HS'.out _))))); (simp only [Act.put, List.setIfInBounds_toArray, List.set_cons_succ, List.set_cons_zero]); (with_reducible refine hK _ ?_); clear hK K))))
  refine wpQuiet_nil ?_
  intro w1 hb1
  replace hb1 := (hC.out _).1 hb1
  clear hC C
  obtain ⟨hc1, hf1⟩ := bcell hb1
  have S_5 := pt S_4 hb1
  go_wp2
  go_ret2
  exact ⟨rfl, S_5⟩

end Go.Proofs.YtnhcamokcggnkaaGreatDoor
end

section
namespace Go.Proofs.YtnhcamokcggnkaaGreatDoor
open Go.RowKit
attribute [local go_sem ↓] Go.wp_at_zero Go.wp_at_succ

/-- What the specification says of the renamed lines of a winding: contracts, bundled. -/
structure RefC (k t s : Int) (r : Bool) (p : V3) (L M : L3) (P Q E E2 : Int) : Prop where
  lines : ∀ w, Calls Tryz.prog 36 #[.agg #[.int .i64 k, .int .i64 t, .int .i64 s, .bool r]] w fun e w' => e = .returned (.agg #[.int .i64 L.x.a, .int .i64 L.x.b, .int .i64 L.x.c, .int .i64 L.y.a, .int .i64 L.y.b, .int .i64 L.y.c, .int .i64 L.z.a, .int .i64 L.z.b, .int .i64 L.z.c]) ∧ Below w.heap.size w w'
  ren : ∀ w, Calls Tryz.prog 128 #[.agg #[.int .i64 L.x.a, .int .i64 L.x.b, .int .i64 L.x.c, .int .i64 L.y.a, .int .i64 L.y.b, .int .i64 L.y.c, .int .i64 L.z.a, .int .i64 L.z.b, .int .i64 L.z.c], .agg #[.int .i64 p.a, .int .i64 p.b, .int .i64 p.c]] w fun e w' => e = .returned (.agg #[.int .i64 M.x.a, .int .i64 M.x.b, .int .i64 M.x.c, .int .i64 M.y.a, .int .i64 M.y.b, .int .i64 M.y.c, .int .i64 M.z.a, .int .i64 M.z.b, .int .i64 M.z.c]) ∧ Below w.heap.size w w'
  seq : ∀ w, Calls Tryz.prog 129 #[.agg #[.int .i64 M.x.a, .int .i64 M.x.b, .int .i64 M.x.c, .int .i64 M.y.a, .int .i64 M.y.b, .int .i64 M.y.c, .int .i64 M.z.a, .int .i64 M.z.b, .int .i64 M.z.c]] w fun e w' => e = .returned (.tuple #[.int .i64 (seqP p), .int .i64 E2]) ∧ Below w.heap.size w w'
  phas : ∀ w, Calls Tryz.prog 59 #[.agg #[.int .i64 M.x.a, .int .i64 M.x.b, .int .i64 M.x.c]] w fun e w' => e = .returned (.agg #[.int .i64 P, .int .i64 Q]) ∧ Below w.heap.size w w'
  hours : ∀ w, Calls Tryz.prog 103 #[.agg #[.int .i64 P, .int .i64 Q]] w fun e w' => e = .returned (.tuple #[.int .i64 ((whV k s r + addP p) % 12), .int .i64 E]) ∧ Below w.heap.size w w'

theorem refC_of {k t s : Int} {r : Bool} (hu : (Wind.mk k t s r).ok) {p : V3} (hp : isPerm p = true) : ∃ L M P Q E E2, RefC k t s r p L M P Q E E2 := by
  obtain ⟨s1, s2, s3, s4, s5, s6, s7, s8, s9⟩ := linesV_sm hu
  have up : ∀ {x : Int}, Sm 4000 x → Sm 10000 x := fun h => by unfold Sm at *; omega
  have hN : NineSm 10000 (linesV ⟨k, t, s, r⟩) := ⟨⟨up s1, up s2, up s3⟩, ⟨up s4, up s5, up s6⟩, ⟨up s7, up s8, up s9⟩⟩
  obtain ⟨⟨r1, r2, r3⟩, ⟨r4, r5, r6⟩, ⟨r7, r8, r9⟩⟩ := ren_sm hN hp
  have hh := ren_hours hu hp
  have hs := ren_seq hu hp
  have hR := fun w => refRenamed_any _ _ _ _ _ _ _ _ _ p.a p.b p.c hp (lineE_of hN.1.1 hN.1.2.1 hN.1.2.2 hN.2.1.1 hN.2.1.2.1 hN.2.1.2.2 hN.2.2.1 hN.2.2.2.1 hN.2.2.2.2) (renV (linesV ⟨k, t, s, r⟩) p) rfl w
  have hL := fun w => refLines_any k t s r hu (linesV ⟨k, t, s, r⟩) rfl w
  dsimp only at hh
  generalize linesV ⟨k, t, s, r⟩ = L at *
  generalize renV L p = M at *
  unfold phP phQ at hh
  have hz : phB (M.x.a - M.x.b) (M.x.c - M.x.b) 0 0 = false := by
    cases hb : phB (M.x.a - M.x.b) (M.x.c - M.x.b) 0 0
    · rfl
    · have := (phB_iff _ _ _ _).1 hb
      injection this with i1 i2
      rw [i1, i2] at hh
      cases hh
  refine ⟨L, M, M.x.a - M.x.b, M.x.c - M.x.b, hoursE (M.x.a - M.x.b) (M.x.c - M.x.b), unlessV (seqP p != 0) 12, hL, hR, fun w => ?_, fun w => refPhasor3_any _ _ _ r1 r2 r3 w, fun w => ?_⟩
  rotate_left
  · have h := refHours_any (M.x.a - M.x.b) (M.x.c - M.x.b) (by unfold Sm at *; omega) (by unfold Sm at *; omega) w
    rw [hh] at h
    exact h
  · have h := refSequence_any M.x.a M.x.b M.x.c M.y.a M.y.b M.y.c M.z.a M.z.b M.z.c (lineE_of r1 r2 r3 r4 r5 r6 r7 r8 r9) w
    rw [hz, if_neg (by decide), if_neg (by decide), show seqV (⟨⟨M.x.a, M.x.b, M.x.c⟩, ⟨M.y.a, M.y.b, M.y.c⟩, ⟨M.z.a, M.z.b, M.z.c⟩⟩ : L3) = seqP p from hs] at h
    exact h

theorem seqP_ne (p : V3) : seqP p = 1 ∨ seqP p = -1 := seqP_one p

set_option maxHeartbeats 8000000 in
set_option maxRecDepth 100000 in
theorem refNewClock_same (k t s : Int) (r : Bool) (k2 t2 s2 : Int) (r2 : Bool) (n : Int) (a b c d e f : Int) (hu : (Wind.mk k t s r).ok) (hu2 : (Wind.mk k2 t2 s2 r2).ok) (hp : isPerm ⟨a, b, c⟩ = true) (hq : isPerm ⟨d, e, f⟩ = true) (hs : seqP ⟨a, b, c⟩ = seqP ⟨d, e, f⟩) (w : World) :
    Calls Tryz.prog 81 #[.agg #[.int .i64 k, .int .i64 t, .int .i64 s, .bool r, .int .i64 k2, .int .i64 t2, .int .i64 s2, .bool r2, .int .i64 n], .agg #[.int .i64 a, .int .i64 b, .int .i64 c, .int .i64 d, .int .i64 e, .int .i64 f]] w fun z w' =>
      z = .returned (.int .i64 (seqP ⟨a, b, c⟩ * ((whV k s r + addP ⟨a, b, c⟩) % 12 - (whV k2 s2 r2 + addP ⟨d, e, f⟩) % 12) % 12)) ∧ Below w.heap.size w w' := by
  obtain ⟨L, A, P, Q, E, E2, hA⟩ := refC_of hu hp
  obtain ⟨K, B, P', Q', E', E2', hB⟩ := refC_of hu2 hq
  obtain ⟨hL, hR, hS, hF, hH⟩ := hA
  obtain ⟨hL', hR', hS', hF', hH'⟩ := hB
  dsimp only at hR hR'
  have h1 := seqP_one ⟨a, b, c⟩
  generalize seqP ⟨a, b, c⟩ = X at *
  generalize seqP ⟨d, e, f⟩ = Y at *
  have g1 : 0 ≤ (whV k s r + addP ⟨a, b, c⟩) % 12 ∧ (whV k s r + addP ⟨a, b, c⟩) % 12 < 12 := by omega
  have g2 : 0 ≤ (whV k2 s2 r2 + addP ⟨d, e, f⟩) % 12 ∧ (whV k2 s2 r2 + addP ⟨d, e, f⟩) % 12 < 12 := by omega
  generalize (whV k s r + addP ⟨a, b, c⟩) % 12 = x at *
  generalize (whV k2 s2 r2 + addP ⟨d, e, f⟩) % 12 = y at *
  subst hs
  have v1 : IntKind.i64.wrap (x - y) = x - y := IntWalk.i64_in _ (by omega)
  have v2 : IntKind.i64.wrap (X * (x - y)) = X * (x - y) := IntWalk.i64_in _ (by rcases h1 with rfl | rfl <;> omega)
  have HM := Lib.hid (refMod12_any (X * (x - y)) (by unfold Sm; rcases h1 with rfl | rfl <;> omega))
  have HL := Lib.hid hL
  have HL' := Lib.hid hL'
  have HR := Lib.hid hR
  have HR' := Lib.hid hR'
  have HS := Lib.hid hS
  have HS' := Lib.hid hS'
  have HF := Lib.hid hF
  have HF' := Lib.hid hF'
  have HH := Lib.hid hH
  have HH' := Lib.hid hH'
  clear hu hu2 hp hq hL hR hS hF hH hL' hR' hS' hF' hH' h1 g1 g2
  go_enter Tryz.func81, Tryz.ntmps81
  go_wp2
  refine region_allocC2 (zc1 := (.cells #[.int .i64 0, .int .i64 0, .int .i64 0, .int .i64 0, .int .i64 0, .int .i64 0, .int .i64 0, .int .i64 0, .int .i64 0] 81)) (zc2 := (.cells #[.int .i64 0, .int .i64 0, .int .i64 0, .int .i64 0, .int .i64 0, .int .i64 0, .int .i64 0, .int .i64 0, .int .i64 0] 81)) 12 follows_mixed (by kernel_rfl) rfl rfl (fun _ _ => by kernel_rfl) (fun _ _ => by kernel_rfl) ?_
  simp only [List.take_succ_cons, List.take_zero, List.drop_succ_cons, List.drop_zero]
  repeat (first
    | ((with_reducible apply grow_plain); (focus rfl); (focus (intro w' hw; obtain ⟨hcq, hfq⟩ := bcell hw; go_simp; (first | done | rfl | (with_reducible exact HL.out _) | (with_reducible exact HR.out _) | (with_reducible exact HL'.out _) | (with_reducible exact HR'.out _)))); (simp only [Act.put, List.setIfInBounds_toArray, List.set_cons_succ, List.set_cons_zero]))
    | ((with_reducible apply grow_skip); (focus (first | (simp [Region.wanted, yielded]; done) | (simp [Region.wanted, yielded, undef]; done))); simp only [Act.put, List.setIfInBounds_toArray, List.set_cons_succ, List.set_cons_zero])
    | ((with_reducible apply grow_go); (focus (first | (simp [Region.wanted, yielded]; done) | (simp [Region.wanted, yielded, undef]; done))); (focus (intro w' hw; obtain ⟨hcq, hfq⟩ := bcell hw; go_simp; (first | done | rfl | (with_reducible exact HL.out _) | (with_reducible exact HR.out _) | (with_reducible exact HL'.out _) | (with_reducible exact HR'.out _)))); (simp only [Act.put, List.setIfInBounds_toArray, List.set_cons_succ, List.set_cons_zero])))
  refine grow_nil ?_
  intro qb1 qb2 w1 hb1 hn1 hn2 hq12
  simp only [Act.put, List.setIfInBounds_toArray, List.set_cons_succ, List.set_cons_zero]
  have A_1 : Blk w1 qb1 81 #[.int .i64 0, .int .i64 0, .int .i64 0, .int .i64 0, .int .i64 0, .int .i64 0, .int .i64 0, .int .i64 0, .int .i64 0] := hn1.at_
  have ge_A : w.heap.size ≤ qb1 := by have := hn1.ge; simp at this; omega
  have B_1 : Blk w1 qb2 81 #[.int .i64 0, .int .i64 0, .int .i64 0, .int .i64 0, .int .i64 0, .int .i64 0, .int .i64 0, .int .i64 0, .int .i64 0] := hn2.at_
  have ge_B : w.heap.size ≤ qb2 := by have := hn2.ge; simp at this; omega
  have S_1 := pt (pa (pa pr)) hb1
  have ne_A_B := hq12
  clear hb1 hn1 hn2 hq12
  go_wp2_with (first
    | ((with_reducible refine store_sub (T := 81) (x := .tmp 5) (y := .tmp 20) (o := 0) (cs' := #[.int .i64 A.x.a, .int .i64 A.x.b, .int .i64 A.x.c, .int .i64 A.y.a, .int .i64 A.y.b, .int .i64 A.y.c, .int .i64 A.z.a, .int .i64 A.z.b, .int .i64 A.z.c]) (vs := #[.int .i64 A.x.a, .int .i64 A.x.b, .int .i64 A.x.c, .int .i64 A.y.a, .int .i64 A.y.b, .int .i64 A.y.c, .int .i64 A.z.a, .int .i64 A.z.b, .int .i64 A.z.c]) (show Blk _ (qb1) 81 #[.int .i64 0, .int .i64 0, .int .i64 0, .int .i64 0, .int .i64 0, .int .i64 0, .int .i64 0, .int .i64 0, .int .i64 0] from (A_1)) ?_ ?_ ?_ ?_ ?_ ?_ ?_); (focus rfl); (focus rfl); (focus rfl); (focus exact Nat.le_of_ble_eq_true rfl); (focus exact lines9_size); (focus (simp [Value.oneCell']; done)); intro w2_ b2_ h2_; have A_2 : Blk w2_ (qb1) 81 #[.int .i64 A.x.a, .int .i64 A.x.b, .int .i64 A.x.c, .int .i64 A.y.a, .int .i64 A.y.b, .int .i64 A.y.c, .int .i64 A.z.a, .int .i64 A.z.b, .int .i64 A.z.c] := b2_; have B_2 : Blk w2_ (qb2) 81 #[.int .i64 0, .int .i64 0, .int .i64 0, .int .i64 0, .int .i64 0, .int .i64 0, .int .i64 0, .int .i64 0, .int .i64 0] := (B_1).put h2_ (Ne.symm ne_A_B); have S_2 := pp (S_1) h2_ ge_A; clear A_1 B_1 S_1; clear h2_ b2_)
    | ((with_reducible refine store_sub (T := 81) (x := .tmp 6) (y := .tmp 26) (o := 0) (cs' := #[.int .i64 B.x.a, .int .i64 B.x.b, .int .i64 B.x.c, .int .i64 B.y.a, .int .i64 B.y.b, .int .i64 B.y.c, .int .i64 B.z.a, .int .i64 B.z.b, .int .i64 B.z.c]) (vs := #[.int .i64 B.x.a, .int .i64 B.x.b, .int .i64 B.x.c, .int .i64 B.y.a, .int .i64 B.y.b, .int .i64 B.y.c, .int .i64 B.z.a, .int .i64 B.z.b, .int .i64 B.z.c]) (show Blk _ (qb2) 81 #[.int .i64 0, .int .i64 0, .int .i64 0, .int .i64 0, .int .i64 0, .int .i64 0, .int .i64 0, .int .i64 0, .int .i64 0] from (B_2)) ?_ ?_ ?_ ?_ ?_ ?_ ?_); (focus rfl); (focus rfl); (focus rfl); (focus exact Nat.le_of_ble_eq_true rfl); (focus exact lines9_size); (focus (simp [Value.oneCell']; done)); intro w3_ b3_ h3_; have A_3 : Blk w3_ (qb1) 81 #[.int .i64 A.x.a, .int .i64 A.x.b, .int .i64 A.x.c, .int .i64 A.y.a, .int .i64 A.y.b, .int .i64 A.y.c, .int .i64 A.z.a, .int .i64 A.z.b, .int .i64 A.z.c] := (A_2).put h3_ ne_A_B; have B_3 : Blk w3_ (qb2) 81 #[.int .i64 B.x.a, .int .i64 B.x.b, .int .i64 B.x.c, .int .i64 B.y.a, .int .i64 B.y.b, .int .i64 B.y.c, .int .i64 B.z.a, .int .i64 B.z.b, .int .i64 B.z.c] := b3_; have S_3 := pp (S_2) h3_ ge_B; clear A_2 B_2 S_2; have Ac0 := A_3.cellAt 0 rfl; have Ac1 := A_3.cellAt 1 rfl; have Ac2 := A_3.cellAt 2 rfl; have Ac3 := A_3.cellAt 3 rfl; have Ac4 := A_3.cellAt 4 rfl; have Ac5 := A_3.cellAt 5 rfl; have Ac6 := A_3.cellAt 6 rfl; have Ac7 := A_3.cellAt 7 rfl; have Ac8 := A_3.cellAt 8 rfl; have Al := A_3.lt; clear h3_ b3_)
    | (go_at_call 129; (with_reducible refine (HS.out _).mono ?_); rintro z_ w4_ ⟨rfl, h4_⟩; have B_4 := B_3.past h4_; have S_4 := pt S_3 h4_; have A_4 := A_3.past h4_; clear Ac0 Ac1 Ac2 Ac3 Ac4 Ac5 Ac6 Ac7 Ac8 Al; clear A_3; clear S_3 h4_ B_3; have Bc0 := B_4.cellAt 0 rfl; have Bc1 := B_4.cellAt 1 rfl; have Bc2 := B_4.cellAt 2 rfl; have Bc3 := B_4.cellAt 3 rfl; have Bc4 := B_4.cellAt 4 rfl; have Bc5 := B_4.cellAt 5 rfl; have Bc6 := B_4.cellAt 6 rfl; have Bc7 := B_4.cellAt 7 rfl; have Bc8 := B_4.cellAt 8 rfl; have Bl := B_4.lt; have Ac0 := A_4.cellAt 0 rfl; have Ac1 := A_4.cellAt 1 rfl; have Ac2 := A_4.cellAt 2 rfl; have Al := A_4.lt; skip)
    | (go_at_call 129; (with_reducible refine (HS'.out _).mono ?_); rintro z_ w5_ ⟨rfl, h5_⟩; have S_5 := pt S_4 h5_; have A_5 := A_4.past h5_; have B_5 := B_4.past h5_; clear Ac0 Ac1 Ac2 Al; clear Bc0 Bc1 Bc2 Bc3 Bc4 Bc5 Bc6 Bc7 Bc8 Bl; clear A_4; clear B_4; clear S_4 h5_; have Ac0 := A_5.cellAt 0 rfl; have Ac1 := A_5.cellAt 1 rfl; have Ac2 := A_5.cellAt 2 rfl; have Al := A_5.lt; have Bc0 := B_5.cellAt 0 rfl; have Bc1 := B_5.cellAt 1 rfl; have Bc2 := B_5.cellAt 2 rfl; have Bl := B_5.lt; skip)
    | (go_at_call 59; (with_reducible refine (HF.out _).mono ?_); rintro z_ w6_ ⟨rfl, h6_⟩; have S_6 := pt S_5 h6_; have B_6 := B_5.past h6_; clear Ac0 Ac1 Ac2 Al; clear Bc0 Bc1 Bc2 Bl; clear A_5; clear B_5; clear S_5 h6_; have Bc0 := B_6.cellAt 0 rfl; have Bc1 := B_6.cellAt 1 rfl; have Bc2 := B_6.cellAt 2 rfl; have Bl := B_6.lt; skip)
    | (go_at_call 103; (with_reducible refine (HH.out _).mono ?_); rintro z_ w7_ ⟨rfl, h7_⟩; have S_7 := pt S_6 h7_; have B_7 := B_6.past h7_; clear Bc0 Bc1 Bc2 Bl; clear B_6; clear S_6 h7_; have Bc0 := B_7.cellAt 0 rfl; have Bc1 := B_7.cellAt 1 rfl; have Bc2 := B_7.cellAt 2 rfl; have Bl := B_7.lt; skip)
    | (go_at_call 59; (with_reducible refine (HF'.out _).mono ?_); rintro z_ w8_ ⟨rfl, h8_⟩; have S_8 := pt S_7 h8_; clear Bc0 Bc1 Bc2 Bl; clear B_7; clear S_7 h8_; skip)
    | (go_at_call 103; (with_reducible refine (HH'.out _).mono ?_); rintro z_ w9_ ⟨rfl, h9_⟩; have S_9 := pt S_8 h9_; clear S_8 h9_; skip)
    | (go_at_call 40; (with_reducible refine (HM.out _).mono ?_); rintro z_ w' ⟨rfl, rfl⟩))
  go_ret
  exact ⟨rfl, S_9⟩

set_option maxHeartbeats 8000000 in
set_option maxRecDepth 100000 in
theorem refNewClock_other (k t s : Int) (r : Bool) (k2 t2 s2 : Int) (r2 : Bool) (n : Int) (a b c d e f : Int) (hu : (Wind.mk k t s r).ok) (hu2 : (Wind.mk k2 t2 s2 r2).ok) (hp : isPerm ⟨a, b, c⟩ = true) (hq : isPerm ⟨d, e, f⟩ = true) (hs : seqP ⟨a, b, c⟩ ≠ seqP ⟨d, e, f⟩) (w : World) :
    Calls Tryz.prog 81 #[.agg #[.int .i64 k, .int .i64 t, .int .i64 s, .bool r, .int .i64 k2, .int .i64 t2, .int .i64 s2, .bool r2, .int .i64 n], .agg #[.int .i64 a, .int .i64 b, .int .i64 c, .int .i64 d, .int .i64 e, .int .i64 f]] w fun z w' =>
      z = .returned (.int .i64 (-1)) ∧ Below w.heap.size w w' := by
  obtain ⟨L, A, P, Q, E, E2, hA⟩ := refC_of hu hp
  obtain ⟨K, B, P', Q', E', E2', hB⟩ := refC_of hu2 hq
  obtain ⟨hL, hR, hS, hF, hH⟩ := hA
  obtain ⟨hL', hR', hS', hF', hH'⟩ := hB
  dsimp only at hR hR'
  have h1 := seqP_one ⟨a, b, c⟩
  generalize seqP ⟨a, b, c⟩ = X at *
  generalize seqP ⟨d, e, f⟩ = Y at *
  have g1 : 0 ≤ (whV k s r + addP ⟨a, b, c⟩) % 12 ∧ (whV k s r + addP ⟨a, b, c⟩) % 12 < 12 := by omega
  have g2 : 0 ≤ (whV k2 s2 r2 + addP ⟨d, e, f⟩) % 12 ∧ (whV k2 s2 r2 + addP ⟨d, e, f⟩) % 12 < 12 := by omega
  generalize (whV k s r + addP ⟨a, b, c⟩) % 12 = x at *
  generalize (whV k2 s2 r2 + addP ⟨d, e, f⟩) % 12 = y at *
  have hs1 : (X == Y) = false := by simpa using hs
  have hs2 : (X != Y) = true := by simpa using hs
  have HL := Lib.hid hL
  have HL' := Lib.hid hL'
  have HR := Lib.hid hR
  have HR' := Lib.hid hR'
  have HS := Lib.hid hS
  have HS' := Lib.hid hS'
  have HF := Lib.hid hF
  have HF' := Lib.hid hF'
  have HH := Lib.hid hH
  have HH' := Lib.hid hH'
  clear hu hu2 hp hq hL hR hS hF hH hL' hR' hS' hF' hH' h1 g1 g2
  go_enter Tryz.func81, Tryz.ntmps81
  go_wp2
  refine region_allocC2 (zc1 := (.cells #[.int .i64 0, .int .i64 0, .int .i64 0, .int .i64 0, .int .i64 0, .int .i64 0, .int .i64 0, .int .i64 0, .int .i64 0] 81)) (zc2 := (.cells #[.int .i64 0, .int .i64 0, .int .i64 0, .int .i64 0, .int .i64 0, .int .i64 0, .int .i64 0, .int .i64 0, .int .i64 0] 81)) 12 follows_mixed (by kernel_rfl) rfl rfl (fun _ _ => by kernel_rfl) (fun _ _ => by kernel_rfl) ?_
  simp only [List.take_succ_cons, List.take_zero, List.drop_succ_cons, List.drop_zero]
  repeat (first
    | ((with_reducible apply grow_plain); (focus rfl); (focus (intro w' hw; obtain ⟨hcq, hfq⟩ := bcell hw; go_simp; (first | done | rfl | (with_reducible exact HL.out _) | (with_reducible exact HR.out _) | (with_reducible exact HL'.out _) | (with_reducible exact HR'.out _)))); (simp only [Act.put, List.setIfInBounds_toArray, List.set_cons_succ, List.set_cons_zero]))
    | ((with_reducible apply grow_skip); (focus (first | (simp [Region.wanted, yielded]; done) | (simp [Region.wanted, yielded, undef]; done))); simp only [Act.put, List.setIfInBounds_toArray, List.set_cons_succ, List.set_cons_zero])
    | ((with_reducible apply grow_go); (focus (first | (simp [Region.wanted, yielded]; done) | (simp [Region.wanted, yielded, undef]; done))); (focus (intro w' hw; obtain ⟨hcq, hfq⟩ := bcell hw; go_simp; (first | done | rfl | (with_reducible exact HL.out _) | (with_reducible exact HR.out _) | (with_reducible exact HL'.out _) | (with_reducible exact HR'.out _)))); (simp only [Act.put, List.setIfInBounds_toArray, List.set_cons_succ, List.set_cons_zero])))
  refine grow_nil ?_
  intro qb1 qb2 w1 hb1 hn1 hn2 hq12
  simp only [Act.put, List.setIfInBounds_toArray, List.set_cons_succ, List.set_cons_zero]
  have A_1 : Blk w1 qb1 81 #[.int .i64 0, .int .i64 0, .int .i64 0, .int .i64 0, .int .i64 0, .int .i64 0, .int .i64 0, .int .i64 0, .int .i64 0] := hn1.at_
  have ge_A : w.heap.size ≤ qb1 := by have := hn1.ge; simp at this; omega
  have B_1 : Blk w1 qb2 81 #[.int .i64 0, .int .i64 0, .int .i64 0, .int .i64 0, .int .i64 0, .int .i64 0, .int .i64 0, .int .i64 0, .int .i64 0] := hn2.at_
  have ge_B : w.heap.size ≤ qb2 := by have := hn2.ge; simp at this; omega
  have S_1 := pt (pa (pa pr)) hb1
  have ne_A_B := hq12
  clear hb1 hn1 hn2 hq12
  go_wp2_with (first
    | ((with_reducible refine store_sub (T := 81) (x := .tmp 5) (y := .tmp 20) (o := 0) (cs' := #[.int .i64 A.x.a, .int .i64 A.x.b, .int .i64 A.x.c, .int .i64 A.y.a, .int .i64 A.y.b, .int .i64 A.y.c, .int .i64 A.z.a, .int .i64 A.z.b, .int .i64 A.z.c]) (vs := #[.int .i64 A.x.a, .int .i64 A.x.b, .int .i64 A.x.c, .int .i64 A.y.a, .int .i64 A.y.b, .int .i64 A.y.c, .int .i64 A.z.a, .int .i64 A.z.b, .int .i64 A.z.c]) (show Blk _ (qb1) 81 #[.int .i64 0, .int .i64 0, .int .i64 0, .int .i64 0, .int .i64 0, .int .i64 0, .int .i64 0, .int .i64 0, .int .i64 0] from (A_1)) ?_ ?_ ?_ ?_ ?_ ?_ ?_); (focus rfl); (focus rfl); (focus rfl); (focus exact Nat.le_of_ble_eq_true rfl); (focus exact lines9_size); (focus (simp [Value.oneCell']; done)); intro w2_ b2_ h2_; have A_2 : Blk w2_ (qb1) 81 #[.int .i64 A.x.a, .int .i64 A.x.b, .int .i64 A.x.c, .int .i64 A.y.a, .int .i64 A.y.b, .int .i64 A.y.c, .int .i64 A.z.a, .int .i64 A.z.b, .int .i64 A.z.c] := b2_; have B_2 : Blk w2_ (qb2) 81 #[.int .i64 0, .int .i64 0, .int .i64 0, .int .i64 0, .int .i64 0, .int .i64 0, .int .i64 0, .int .i64 0, .int .i64 0] := (B_1).put h2_ (Ne.symm ne_A_B); have S_2 := pp (S_1) h2_ ge_A; clear A_1 B_1 S_1; clear h2_ b2_)
    | ((with_reducible refine store_sub (T := 81) (x := .tmp 6) (y := .tmp 26) (o := 0) (cs' := #[.int .i64 B.x.a, .int .i64 B.x.b, .int .i64 B.x.c, .int .i64 B.y.a, .int .i64 B.y.b, .int .i64 B.y.c, .int .i64 B.z.a, .int .i64 B.z.b, .int .i64 B.z.c]) (vs := #[.int .i64 B.x.a, .int .i64 B.x.b, .int .i64 B.x.c, .int .i64 B.y.a, .int .i64 B.y.b, .int .i64 B.y.c, .int .i64 B.z.a, .int .i64 B.z.b, .int .i64 B.z.c]) (show Blk _ (qb2) 81 #[.int .i64 0, .int .i64 0, .int .i64 0, .int .i64 0, .int .i64 0, .int .i64 0, .int .i64 0, .int .i64 0, .int .i64 0] from (B_2)) ?_ ?_ ?_ ?_ ?_ ?_ ?_); (focus rfl); (focus rfl); (focus rfl); (focus exact Nat.le_of_ble_eq_true rfl); (focus exact lines9_size); (focus (simp [Value.oneCell']; done)); intro w3_ b3_ h3_; have A_3 : Blk w3_ (qb1) 81 #[.int .i64 A.x.a, .int .i64 A.x.b, .int .i64 A.x.c, .int .i64 A.y.a, .int .i64 A.y.b, .int .i64 A.y.c, .int .i64 A.z.a, .int .i64 A.z.b, .int .i64 A.z.c] := (A_2).put h3_ ne_A_B; have B_3 : Blk w3_ (qb2) 81 #[.int .i64 B.x.a, .int .i64 B.x.b, .int .i64 B.x.c, .int .i64 B.y.a, .int .i64 B.y.b, .int .i64 B.y.c, .int .i64 B.z.a, .int .i64 B.z.b, .int .i64 B.z.c] := b3_; have S_3 := pp (S_2) h3_ ge_B; clear A_2 B_2 S_2; have Ac0 := A_3.cellAt 0 rfl; have Ac1 := A_3.cellAt 1 rfl; have Ac2 := A_3.cellAt 2 rfl; have Ac3 := A_3.cellAt 3 rfl; have Ac4 := A_3.cellAt 4 rfl; have Ac5 := A_3.cellAt 5 rfl; have Ac6 := A_3.cellAt 6 rfl; have Ac7 := A_3.cellAt 7 rfl; have Ac8 := A_3.cellAt 8 rfl; have Al := A_3.lt; clear h3_ b3_)
    | (go_at_call 129; (with_reducible refine (HS.out _).mono ?_); rintro z_ w4_ ⟨rfl, h4_⟩; have B_4 := B_3.past h4_; have S_4 := pt S_3 h4_; have A_4 := A_3.past h4_; clear Ac0 Ac1 Ac2 Ac3 Ac4 Ac5 Ac6 Ac7 Ac8 Al; clear A_3; clear S_3 h4_ B_3; have Bc0 := B_4.cellAt 0 rfl; have Bc1 := B_4.cellAt 1 rfl; have Bc2 := B_4.cellAt 2 rfl; have Bc3 := B_4.cellAt 3 rfl; have Bc4 := B_4.cellAt 4 rfl; have Bc5 := B_4.cellAt 5 rfl; have Bc6 := B_4.cellAt 6 rfl; have Bc7 := B_4.cellAt 7 rfl; have Bc8 := B_4.cellAt 8 rfl; have Bl := B_4.lt; have Ac0 := A_4.cellAt 0 rfl; have Ac1 := A_4.cellAt 1 rfl; have Ac2 := A_4.cellAt 2 rfl; have Al := A_4.lt; skip)
    | (go_at_call 129; (with_reducible refine (HS'.out _).mono ?_); rintro z_ w5_ ⟨rfl, h5_⟩; have S_5 := pt S_4 h5_; clear Ac0 Ac1 Ac2 Al; clear Bc0 Bc1 Bc2 Bc3 Bc4 Bc5 Bc6 Bc7 Bc8 Bl; clear A_4; clear B_4; clear S_4 h5_; skip))
  go_ret
  exact ⟨rfl, S_5⟩

end Go.Proofs.YtnhcamokcggnkaaGreatDoor
end

section
namespace Go.Proofs.YtnhcamokcggnkaaGreatDoor
open Go.RowKit
attribute [local go_sem ↓] Go.wp_at_zero Go.wp_at_succ

def permCells : Array Value := #[.int .i64 0, .int .i64 1, .int .i64 2, .int .i64 0, .int .i64 2, .int .i64 1, .int .i64 1, .int .i64 0, .int .i64 2, .int .i64 1, .int .i64 2, .int .i64 0, .int .i64 2, .int .i64 0, .int .i64 1, .int .i64 2, .int .i64 1, .int .i64 0]

set_option maxHeartbeats 2000000 in
set_option maxRecDepth 100000 in
theorem refPermutations_any (w : World) :
    Calls Tryz.prog 80 #[] w fun e w' => e = .returned (.slice (some ⟨w.heap.size, 0, none⟩) 6 6) ∧ Blk w' w.heap.size 68 permCells ∧ Below w.heap.size w w' := by
  go_enter Tryz.func80, Tryz.ntmps80
  go_wp2
  go_ret
  exact ⟨rfl, Blk.newAt rfl, pa pr⟩

theorem refNewClock_any (k t s : Int) (r : Bool) (k2 t2 s2 : Int) (r2 : Bool) (n : Int) (a b c d e f : Int) (hu : (Wind.mk k t s r).ok) (hu2 : (Wind.mk k2 t2 s2 r2).ok) (hp : isPerm ⟨a, b, c⟩ = true) (hq : isPerm ⟨d, e, f⟩ = true) (w : World) :
    Calls Tryz.prog 81 #[.agg #[.int .i64 k, .int .i64 t, .int .i64 s, .bool r, .int .i64 k2, .int .i64 t2, .int .i64 s2, .bool r2, .int .i64 n], .agg #[.int .i64 a, .int .i64 b, .int .i64 c, .int .i64 d, .int .i64 e, .int .i64 f]] w fun z w' =>
      z = .returned (.int .i64 (newV ((whV k s r - whV k2 s2 r2) % 12) ⟨a, b, c⟩ ⟨d, e, f⟩)) ∧ Below w.heap.size w w' := by
  by_cases hs : seqP ⟨a, b, c⟩ = seqP ⟨d, e, f⟩
  · have h := refNewClock_same k t s r k2 t2 s2 r2 n a b c d e f hu hu2 hp hq hs w
    rw [new_clock hs] at h
    exact h
  · have h := refNewClock_other k t s r k2 t2 s2 r2 n a b c d e f hu hu2 hp hq hs w
    unfold newV
    rw [if_neg hs]
    exact h

/-- The program's answer: the clock number of the renamed unit if both sides have one sequence, else some number. -/
theorem renamedClock_new (k t s : Int) (r : Bool) (k2 t2 s2 : Int) (r2 : Bool) (n : Int) (a b c d e f : Int) (hu : (Wind.mk k t s r).ok) (hu2 : (Wind.mk k2 t2 s2 r2).ok) (hp : isPerm ⟨a, b, c⟩ = true) (hq : isPerm ⟨d, e, f⟩ = true) : ∃ x : Int, (∀ w, TwIn w → PatIn w → Calls Tryz.prog 79 #[.agg #[.int .i64 k, .int .i64 t, .int .i64 s, .bool r, .int .i64 k2, .int .i64 t2, .int .i64 s2, .bool r2, .int .i64 n], .agg #[.int .i64 a, .int .i64 b, .int .i64 c, .int .i64 d, .int .i64 e, .int .i64 f]] w fun z w' =>
      z = .returned (.tuple #[.int .i64 x, .bool (seqP ⟨a, b, c⟩ == seqP ⟨d, e, f⟩)]) ∧ Below w.heap.size w w') ∧
    ∀ g : Int, 0 ≤ g → ((seqP ⟨a, b, c⟩ == seqP ⟨d, e, f⟩) && x == g) = (newV ((whV k s r - whV k2 s2 r2) % 12) ⟨a, b, c⟩ ⟨d, e, f⟩ == g) := by
  refine ⟨_, fun w hT hP => renamedClock_any k t s r k2 t2 s2 r2 n a b c d e f hu hu2 hp hq w hT hP, fun g hg => ?_⟩
  by_cases hs : seqP ⟨a, b, c⟩ = seqP ⟨d, e, f⟩
  · rw [Int.mul_comm, new_clock hs, beq_iff_eq.2 hs, Bool.true_and]
  · have h1 : (seqP ⟨a, b, c⟩ == seqP ⟨d, e, f⟩) = false := by simpa using hs
    rw [h1, Bool.false_and]
    unfold newV
    rw [if_neg hs]
    symm
    simp
    omega

end Go.Proofs.YtnhcamokcggnkaaGreatDoor
end

section
namespace Go.Proofs.YtnhcamokcggnkaaGreatDoor
open Go.RowKit
attribute [local go_sem ↓] Go.wp_at_zero Go.wp_at_succ

theorem gmatch_size : (Tryz.prog.info? 70).map (·.size) = some 6 := by kernel_rfl
def matchCells : Option (V3 × V3) → Array Value
  | none => #[.int .i64 0, .int .i64 0, .int .i64 0, .int .i64 0, .int .i64 0, .int .i64 0]
  | some (p, q) => #[.int .i64 p.a, .int .i64 p.b, .int .i64 p.c, .int .i64 q.a, .int .i64 q.b, .int .i64 q.c]
def permAt (i : Nat) : V3 := permL.getD i ⟨0, 1, 2⟩
theorem pair_drop : ∀ i : _root_.Fin 6, ∀ k : _root_.Fin 6, pairL.drop (6 * i.val + k.val) = (permAt i.val, permAt k.val) :: pairL.drop (6 * i.val + (k.val + 1)) := by decide
theorem pair_step {i k : Nat} (hi : i < 6) (hk : k < 6) : pairL.drop (6 * i + k) = (permAt i, permAt k) :: pairL.drop (6 * i + (k + 1)) := pair_drop ⟨i, hi⟩ ⟨k, hk⟩
theorem permAt_perm {i : Nat} (hi : i < 6) : isPerm (permAt i) = true := by
  obtain rfl | rfl | rfl | rfl | rfl | rfl : i = 0 ∨ i = 1 ∨ i = 2 ∨ i = 3 ∨ i = 4 ∨ i = 5 := by omega
  all_goals decide
theorem perm_cells {w : World} {g : Nat} (h : Blk w g 68 permCells) {i : Nat} (hi : i < 6) : w.cell? ⟨g, i * 3, none⟩ = some (.int .i64 (permAt i).a) ∧ w.cell? ⟨g, i * 3 + 1, none⟩ = some (.int .i64 (permAt i).b) ∧ w.cell? ⟨g, i * 3 + 2, none⟩ = some (.int .i64 (permAt i).c) := by
  obtain rfl | rfl | rfl | rfl | rfl | rfl : i = 0 ∨ i = 1 ∨ i = 2 ∨ i = 3 ∨ i = 4 ∨ i = 5 := by omega
  all_goals exact ⟨h.cellAt _ rfl, h.cellAt _ rfl, h.cellAt _ rfl⟩

set_option maxHeartbeats 8000000 in
set_option maxRecDepth 100000 in
theorem refMatch_core (k t s : Int) (r : Bool) (k2 t2 s2 : Int) (r2 : Bool) (n : Int) (l u o : Int) (z : Bool) (l2 u2 o2 : Int) (z2 : Bool) (m p c : Int) (nv : V3 → V3 → Int) (res : Option (V3 × V3)) (hres : res = pairL.find? fun x => nv x.1 x.2 == c)
    (hn : ∀ w, Calls Tryz.prog 32 #[.agg #[.int .i64 k, .int .i64 t, .int .i64 s, .bool r, .int .i64 k2, .int .i64 t2, .int .i64 s2, .bool r2, .int .i64 n], .agg #[.int .i64 l, .int .i64 u, .int .i64 o, .bool z, .int .i64 l2, .int .i64 u2, .int .i64 o2, .bool z2, .int .i64 m], .int .i64 p] w fun e w' => e = .returned (.bool true) ∧ Below w.heap.size w w')
    (hc : ∀ w, Calls Tryz.prog 15 #[.agg #[.int .i64 k, .int .i64 t, .int .i64 s, .bool r, .int .i64 k2, .int .i64 t2, .int .i64 s2, .bool r2, .int .i64 n]] w fun e w' => e = .returned (.int .i64 c) ∧ Below w.heap.size w w')
    (hN : ∀ x y : V3, isPerm x = true → isPerm y = true → ∀ w, Calls Tryz.prog 81 #[.agg #[.int .i64 l, .int .i64 u, .int .i64 o, .bool z, .int .i64 l2, .int .i64 u2, .int .i64 o2, .bool z2, .int .i64 m], .agg #[.int .i64 x.a, .int .i64 x.b, .int .i64 x.c, .int .i64 y.a, .int .i64 y.b, .int .i64 y.c]] w fun e w' => e = .returned (.int .i64 (nv x y)) ∧ Below w.heap.size w w')
    (w : World) :
    Calls Tryz.prog 31 #[.agg #[.int .i64 k, .int .i64 t, .int .i64 s, .bool r, .int .i64 k2, .int .i64 t2, .int .i64 s2, .bool r2, .int .i64 n], .agg #[.int .i64 l, .int .i64 u, .int .i64 o, .bool z, .int .i64 l2, .int .i64 u2, .int .i64 o2, .bool z2, .int .i64 m], .int .i64 p] w fun e w' =>
      e = .returned (.tuple #[.agg (matchCells res), .bool res.isSome]) ∧ Below w.heap.size w w' := by
  have HN := Lib.hid hn
  have HC := Lib.hid hc
  have HM := Lib.hid hN
  have HRes := Lib.hid hres
  clear hn hc hN hres
  go_enter Tryz.func31, Tryz.ntmps31
  go_wp2_with (go_at_call 80; (with_reducible refine (refPermutations_any _).mono ?_); rintro e w0 ⟨rfl, P0, h0⟩)
  have A0 : Blk w0 w.heap.size 25 #[.int .i64 k, .int .i64 t, .int .i64 s, .bool r, .int .i64 k2, .int .i64 t2, .int .i64 s2, .bool r2, .int .i64 n] := ((Blk.newAt (by simp)).alloc.alloc).past h0
  have B0 : Blk w0 (w.heap.size + 1) 25 #[.int .i64 l, .int .i64 u, .int .i64 o, .bool z, .int .i64 l2, .int .i64 u2, .int .i64 o2, .bool z2, .int .i64 m] := ((Blk.newAt (by simp)).alloc).past h0
  have R0 : Blk w0 (w.heap.size + 1 + 1) 70 #[.int .i64 0, .int .i64 0, .int .i64 0, .int .i64 0, .int .i64 0, .int .i64 0] := ((Blk.newAt (by simp))).past h0
  have S0 : Below w.heap.size w w0 := pt (pa (pa (pa pr))) h0
  clear h0
  simp only [World.size_alloc] at P0
  have HA0 := Lib.hid A0
  have HB0 := Lib.hid B0
  have HR0 := Lib.hid R0
  have HP0 := Lib.hid P0
  have HS0 := Lib.hid S0
  clear A0 B0 R0 P0 S0
  go_loopw [9] (fun iv wr => ∃ i : Nat, iv = .int .i64 (i : Int) ∧ i ≤ 6 ∧ res = (pairL.drop (6 * i)).find? (fun x => nv x.1 x.2 == c) ∧ Below w0.heap.size w0 wr) (fun iv _ => 6 - (intOf iv).toNat)
  case atStart => exact ⟨0, rfl, by omega, HRes.out, pr⟩
  case round =>
    obtain ⟨i, rfl, hi, hrun, hq⟩ := hrel
    have HRun := Lib.hid hrun
    clear hrun
    have A_0 := HA0.out.past hq
    have B_0 := HB0.out.past hq
    have R_0 := HR0.out.past hq
    have P_0 := HP0.out.past hq
    have S_0 := pt HS0.out hq
    have i0 : (0 : Int) ≤ (i : Int) := by omega
    by_cases hlt : i < 6
    · have i1 : (i : Int) < 6 := by omega
      have Ac0 := A_0.cellAt 0 rfl
      have Ac1 := A_0.cellAt 1 rfl
      have Ac2 := A_0.cellAt 2 rfl
      have Ac3 := A_0.cellAt 3 rfl
      have Ac4 := A_0.cellAt 4 rfl
      have Ac5 := A_0.cellAt 5 rfl
      have Ac6 := A_0.cellAt 6 rfl
      have Ac7 := A_0.cellAt 7 rfl
      have Ac8 := A_0.cellAt 8 rfl
      have Al := A_0.lt
      have Bc0 := B_0.cellAt 0 rfl
      have Bc1 := B_0.cellAt 1 rfl
      have Bc2 := B_0.cellAt 2 rfl
      have Bc3 := B_0.cellAt 3 rfl
      have Bc4 := B_0.cellAt 4 rfl
      have Bc5 := B_0.cellAt 5 rfl
      have Bc6 := B_0.cellAt 6 rfl
      have Bc7 := B_0.cellAt 7 rfl
      have Bc8 := B_0.cellAt 8 rfl
      have Bl := B_0.lt
      go_wp2_with (go_at_call 32; (with_reducible refine (HN.out _).mono ?_); rintro e wo ⟨rfl, h1_⟩; have hq1 := pt hq h1_; clear h1_ Ac0 Ac1 Ac2 Ac3 Ac4 Ac5 Ac6 Ac7 Ac8 Bc0 Bc1 Bc2 Bc3 Bc4 Bc5 Bc6 Bc7 Bc8 Al Bl)
      clear A_0 B_0 R_0 P_0 S_0
      have HQ1 := Lib.hid hq1
      clear hq hq1
      go_loopw [10] (fun kv wr => ∃ k : Nat, kv = .int .i64 (k : Int) ∧ k ≤ 6 ∧ res = (pairL.drop (6 * i + k)).find? (fun x => nv x.1 x.2 == c) ∧ Below wo.heap.size wo wr) (fun kv _ => 6 - (intOf kv).toNat)
      case atStart => exact ⟨0, rfl, by omega, HRun.out, pr⟩
      case round =>
        obtain ⟨j, rfl, hj, hrun2, hq2⟩ := hrel
        have HRun2 := Lib.hid hrun2
        clear hrun2
        have hq3 := pt HQ1.out hq2
        have HQ3 := Lib.hid hq3
        have SO := pt HS0.out HQ1.out
        have A_0 := HA0.out.past hq3
        have B_0 := HB0.out.past hq3
        have R_0 := HR0.out.past hq3
        have P_0 := HP0.out.past hq3
        have S_0 := hq2
        clear hq2 hq3
        have j0 : (0 : Int) ≤ (j : Int) := by omega
        by_cases hlt2 : j < 6
        · have j1 : (j : Int) < 6 := by omega
          obtain ⟨e0, e1, e2⟩ := perm_cells P_0 hlt
          obtain ⟨e3, e4, e5⟩ := perm_cells P_0 hlt2
          have Pl := P_0.lt
          have HST := Lib.hid (pair_step hlt hlt2)
          have HNC := HM.out _ _ (permAt_perm hlt) (permAt_perm hlt2)
          generalize hx : nv (permAt i) (permAt j) = x at *
          generalize (permAt i) = p1 at *
          generalize (permAt j) = p2 at *
          obtain ⟨xa, xb, xc⟩ := p1
          obtain ⟨ya, yb, yc⟩ := p2
          dsimp only at HNC e0 e1 e2 e3 e4 e5
          have HNC' := Lib.hid HNC
          clear HNC
          have ne_A_R : w.heap.size ≠ w.heap.size + 1 + 1 := by omega
          have ne_B_R : w.heap.size + 1 ≠ w.heap.size + 1 + 1 := by omega
          have ne_R_P : w.heap.size + 1 + 1 ≠ w.heap.size + 1 + 1 + 1 := by omega
          have ge_R : w.heap.size ≤ w.heap.size + 1 + 1 := by omega
          go_wp2
          refine region_alloc (zc := (.cells #[.int .i64 0, .int .i64 0, .int .i64 0, .int .i64 0, .int .i64 0, .int .i64 0] 70)) 9 follows_mixed (by kernel_rfl) rfl (fun _ _ => by kernel_rfl) ?_
          simp only [List.take_succ_cons, List.take_zero, List.drop_succ_cons, List.drop_zero]
          repeat (first
            | ((with_reducible apply grow_plain); (focus rfl); (focus (intro w' hw; obtain ⟨hcq, hfq⟩ := bcell hw; go_simp; (first | done | rfl))); (simp only [Act.put, List.setIfInBounds_toArray, List.set_cons_succ, List.set_cons_zero]))
            | ((with_reducible apply grow_skip); (focus (first | (simp [Region.wanted, yielded]; done) | (simp [Region.wanted, yielded, undef]; done))); simp only [Act.put, List.setIfInBounds_toArray, List.set_cons_succ, List.set_cons_zero])
            | ((with_reducible apply grow_go); (focus (first | (simp [Region.wanted, yielded]; done) | (simp [Region.wanted, yielded, undef]; done))); (focus (intro w' hw; obtain ⟨hcq, hfq⟩ := bcell hw; go_simp; (first | done | rfl))); (simp only [Act.put, List.setIfInBounds_toArray, List.set_cons_succ, List.set_cons_zero])))
          refine grow_nil ?_
          intro v1 w1 hv1 hb1
          simp only [Act.put, List.setIfInBounds_toArray, List.set_cons_succ, List.set_cons_zero]
          have ne_A_M : w.heap.size ≠ v1.heap.size := by have := (A_0.past hv1).lt; omega
          have A_1 : Blk w1 (w.heap.size) 25 #[.int .i64 k, .int .i64 t, .int .i64 s, .bool r, .int .i64 k2, .int .i64 t2, .int .i64 s2, .bool r2, .int .i64 n] := ((A_0.past hv1).alloc).past hb1
          have ne_B_M : w.heap.size + 1 ≠ v1.heap.size := by have := (B_0.past hv1).lt; omega
          have B_1 : Blk w1 (w.heap.size + 1) 25 #[.int .i64 l, .int .i64 u, .int .i64 o, .bool z, .int .i64 l2, .int .i64 u2, .int .i64 o2, .bool z2, .int .i64 m] := ((B_0.past hv1).alloc).past hb1
          have ne_R_M : w.heap.size + 1 + 1 ≠ v1.heap.size := by have := (R_0.past hv1).lt; omega
          have R_1 : Blk w1 (w.heap.size + 1 + 1) 70 #[.int .i64 0, .int .i64 0, .int .i64 0, .int .i64 0, .int .i64 0, .int .i64 0] := ((R_0.past hv1).alloc).past hb1
          have ne_P_M : w.heap.size + 1 + 1 + 1 ≠ v1.heap.size := by have := (P_0.past hv1).lt; omega
          have P_1 : Blk w1 (w.heap.size + 1 + 1 + 1) 68 #[.int .i64 0, .int .i64 1, .int .i64 2, .int .i64 0, .int .i64 2, .int .i64 1, .int .i64 1, .int .i64 0, .int .i64 2, .int .i64 1, .int .i64 2, .int .i64 0, .int .i64 2, .int .i64 0, .int .i64 1, .int .i64 2, .int .i64 1, .int .i64 0] := ((P_0.past hv1).alloc).past hb1
          have M_1 : Blk w1 v1.heap.size 70 #[.int .i64 0, .int .i64 0, .int .i64 0, .int .i64 0, .int .i64 0, .int .i64 0] := (Blk.new _ _ _).past hb1
          have ge_M : wo.heap.size ≤ v1.heap.size := (pt (S_0) hv1).size
          have S_1 := pt (pa (pt (S_0) hv1)) hb1
          clear A_0 B_0 R_0 P_0 S_0 e0 e1 e2 e3 e4 e5 Pl
          clear hb1 hv1
          obtain ⟨v1_, rfl⟩ : ∃ v, v = v1 := ⟨_, rfl⟩
          obtain ⟨w1_, rfl⟩ : ∃ v, v = w1 := ⟨_, rfl⟩
          have Ac0 := A_1.cellAt 0 rfl
          have Ac1 := A_1.cellAt 1 rfl
          have Ac2 := A_1.cellAt 2 rfl
          have Ac3 := A_1.cellAt 3 rfl
          have Ac4 := A_1.cellAt 4 rfl
          have Ac5 := A_1.cellAt 5 rfl
          have Ac6 := A_1.cellAt 6 rfl
          have Ac7 := A_1.cellAt 7 rfl
          have Ac8 := A_1.cellAt 8 rfl
          have Al := A_1.lt
          have Bc0 := B_1.cellAt 0 rfl
          have Bc1 := B_1.cellAt 1 rfl
          have Bc2 := B_1.cellAt 2 rfl
          have Bc3 := B_1.cellAt 3 rfl
          have Bc4 := B_1.cellAt 4 rfl
          have Bc5 := B_1.cellAt 5 rfl
          have Bc6 := B_1.cellAt 6 rfl
          have Bc7 := B_1.cellAt 7 rfl
          have Bc8 := B_1.cellAt 8 rfl
          have Bl := B_1.lt
          go_wp2_with (first
            | ((with_reducible refine store_sub (T := 70) (x := .tmp 11) (y := .tmp 39) (o := 0) (cs' := #[.int .i64 xa, .int .i64 xb, .int .i64 xc, .int .i64 ya, .int .i64 yb, .int .i64 yc]) (vs := #[.int .i64 xa, .int .i64 xb, .int .i64 xc, .int .i64 ya, .int .i64 yb, .int .i64 yc]) (show Blk _ (v1_.heap.size) 70 #[.int .i64 0, .int .i64 0, .int .i64 0, .int .i64 0, .int .i64 0, .int .i64 0] from (M_1)) ?_ ?_ ?_ ?_ ?_ ?_ ?_); (focus rfl); (focus rfl); (focus rfl); (focus exact Nat.le_of_ble_eq_true rfl); (focus exact gmatch_size); (focus (simp [Value.oneCell']; done)); intro w2_ b2_ h2_; have A_2 : Blk w2_ (w.heap.size) 25 #[.int .i64 k, .int .i64 t, .int .i64 s, .bool r, .int .i64 k2, .int .i64 t2, .int .i64 s2, .bool r2, .int .i64 n] := (A_1).put h2_ ne_A_M; have B_2 : Blk w2_ (w.heap.size + 1) 25 #[.int .i64 l, .int .i64 u, .int .i64 o, .bool z, .int .i64 l2, .int .i64 u2, .int .i64 o2, .bool z2, .int .i64 m] := (B_1).put h2_ ne_B_M; have R_2 : Blk w2_ (w.heap.size + 1 + 1) 70 #[.int .i64 0, .int .i64 0, .int .i64 0, .int .i64 0, .int .i64 0, .int .i64 0] := (R_1).put h2_ ne_R_M; have P_2 : Blk w2_ (w.heap.size + 1 + 1 + 1) 68 #[.int .i64 0, .int .i64 1, .int .i64 2, .int .i64 0, .int .i64 2, .int .i64 1, .int .i64 1, .int .i64 0, .int .i64 2, .int .i64 1, .int .i64 2, .int .i64 0, .int .i64 2, .int .i64 0, .int .i64 1, .int .i64 2, .int .i64 1, .int .i64 0] := (P_1).put h2_ ne_P_M; have M_2 : Blk w2_ (v1_.heap.size) 70 #[.int .i64 xa, .int .i64 xb, .int .i64 xc, .int .i64 ya, .int .i64 yb, .int .i64 yc] := b2_; have S_2 := pp (S_1) h2_ ge_M; clear A_1 B_1 R_1 P_1 M_1 S_1 Ac0 Ac1 Ac2 Ac3 Ac4 Ac5 Ac6 Ac7 Ac8 Al Bc0 Bc1 Bc2 Bc3 Bc4 Bc5 Bc6 Bc7 Bc8 Bl; have Ac0 := A_2.cellAt 0 rfl; have Ac1 := A_2.cellAt 1 rfl; have Ac2 := A_2.cellAt 2 rfl; have Ac3 := A_2.cellAt 3 rfl; have Ac4 := A_2.cellAt 4 rfl; have Ac5 := A_2.cellAt 5 rfl; have Ac6 := A_2.cellAt 6 rfl; have Ac7 := A_2.cellAt 7 rfl; have Ac8 := A_2.cellAt 8 rfl; have Al := A_2.lt; have Bc0 := B_2.cellAt 0 rfl; have Bc1 := B_2.cellAt 1 rfl; have Bc2 := B_2.cellAt 2 rfl; have Bc3 := B_2.cellAt 3 rfl; have Bc4 := B_2.cellAt 4 rfl; have Bc5 := B_2.cellAt 5 rfl; have Bc6 := B_2.cellAt 6 rfl; have Bc7 := B_2.cellAt 7 rfl; have Bc8 := B_2.cellAt 8 rfl; have Bl := B_2.lt; have Mc0 := M_2.cellAt 0 rfl; have Mc1 := M_2.cellAt 1 rfl; have Mc2 := M_2.cellAt 2 rfl; have Mc3 := M_2.cellAt 3 rfl; have Mc4 := M_2.cellAt 4 rfl; have Mc5 := M_2.cellAt 5 rfl; have Ml := M_2.lt; clear h2_ b2_))
          refine region_below 5 follows_mixed (by kernel_rfl) ?_
          intro C hC
          simp only [List.take_succ_cons, List.take_zero, List.drop_succ_cons, List.drop_zero]
          repeat (first
            | ((with_reducible refine quiet_plain rfl (fun K hK => ?_)); (focus (apply quiet_val; (focus (intro w' hw; obtain ⟨hcq, hfq⟩ := bcell ((hC.out _).1 hw); go_simp; (first | done | rfl | (with_reducible exact call_below hC hw (HNC'.out _)) | (with_reducible exact call_below hC hw (HC.out _))))); (simp only [Act.put, List.setIfInBounds_toArray, List.set_cons_succ, List.set_cons_zero]); (with_reducible refine hK _ ?_); clear hK K)))
            | ((with_reducible refine quiet_skip ?_ ?_); (focus (first | (simp [Region.wanted, yielded]; done) | (simp [Region.wanted, yielded, undef]; done))); simp only [Act.put, List.setIfInBounds_toArray, List.set_cons_succ, List.set_cons_zero])
            | ((with_reducible refine quiet_go ?_ (fun K hK => ?_)); (focus (first | (simp [Region.wanted, yielded]; done) | (simp [Region.wanted, yielded, undef]; done))); (focus (apply quiet_val; (focus (intro w' hw; obtain ⟨hcq, hfq⟩ := bcell ((hC.out _).1 hw); go_simp; (first | done | rfl | (with_reducible exact call_below hC hw (HNC'.out _)) | (with_reducible exact call_below hC hw (HC.out _))))); (simp only [Act.put, List.setIfInBounds_toArray, List.set_cons_succ, List.set_cons_zero]); (with_reducible refine hK _ ?_); clear hK K))))
          refine wpQuiet_nil ?_
          intro w1 hb1
          replace hb1 := (hC.out _).1 hb1
          clear hC C
          obtain ⟨hc1, hf1⟩ := bcell hb1
          have A_3 : Blk w1 (w.heap.size) 25 #[.int .i64 k, .int .i64 t, .int .i64 s, .bool r, .int .i64 k2, .int .i64 t2, .int .i64 s2, .bool r2, .int .i64 n] := (A_2).past hb1
          have B_3 : Blk w1 (w.heap.size + 1) 25 #[.int .i64 l, .int .i64 u, .int .i64 o, .bool z, .int .i64 l2, .int .i64 u2, .int .i64 o2, .bool z2, .int .i64 m] := (B_2).past hb1
          have R_3 : Blk w1 (w.heap.size + 1 + 1) 70 #[.int .i64 0, .int .i64 0, .int .i64 0, .int .i64 0, .int .i64 0, .int .i64 0] := (R_2).past hb1
          have P_3 : Blk w1 (w.heap.size + 1 + 1 + 1) 68 #[.int .i64 0, .int .i64 1, .int .i64 2, .int .i64 0, .int .i64 2, .int .i64 1, .int .i64 1, .int .i64 0, .int .i64 2, .int .i64 1, .int .i64 2, .int .i64 0, .int .i64 2, .int .i64 0, .int .i64 1, .int .i64 2, .int .i64 1, .int .i64 0] := (P_2).past hb1
          have M_3 : Blk w1 (v1_.heap.size) 70 #[.int .i64 xa, .int .i64 xb, .int .i64 xc, .int .i64 ya, .int .i64 yb, .int .i64 yc] := (M_2).past hb1
          have S_3 := pt (S_2) hb1
          clear A_2 B_2 R_2 P_2 M_2 S_2 Ac0 Ac1 Ac2 Ac3 Ac4 Ac5 Ac6 Ac7 Ac8 Al Bc0 Bc1 Bc2 Bc3 Bc4 Bc5 Bc6 Bc7 Bc8 Bl Mc0 Mc1 Mc2 Mc3 Mc4 Mc5 Ml
          clear hb1 hc1 hf1
          obtain ⟨w3_, rfl⟩ : ∃ v, v = w1 := ⟨_, rfl⟩
          by_cases hxc : x = c
          · have hx2 : (x == c) = true := by simpa using hxc
            have HX := Lib.hid (show res = some (⟨xa, xb, xc⟩, ⟨ya, yb, yc⟩) from by rw [HRun2.out, HST.out, List.find?_cons]; simp only [hx, hx2])
            clear hxc
            have SW := pt SO S_3
            have Mc0 := M_3.cellAt 0 rfl
            have Mc1 := M_3.cellAt 1 rfl
            have Mc2 := M_3.cellAt 2 rfl
            have Mc3 := M_3.cellAt 3 rfl
            have Mc4 := M_3.cellAt 4 rfl
            have Mc5 := M_3.cellAt 5 rfl
            have Ml := M_3.lt
            have Rc0 := R_3.cellAt 0 rfl
            have Rc1 := R_3.cellAt 1 rfl
            have Rc2 := R_3.cellAt 2 rfl
            have Rc3 := R_3.cellAt 3 rfl
            have Rc4 := R_3.cellAt 4 rfl
            have Rc5 := R_3.cellAt 5 rfl
            have Rl := R_3.lt
            go_wp2_with (first
              | ((with_reducible refine store_sub (T := 70) (x := .tmp 6) (y := .tmp 46) (o := 0) (cs' := #[.int .i64 xa, .int .i64 xb, .int .i64 xc, .int .i64 ya, .int .i64 yb, .int .i64 yc]) (vs := #[.int .i64 xa, .int .i64 xb, .int .i64 xc, .int .i64 ya, .int .i64 yb, .int .i64 yc]) (show Blk _ (w.heap.size + 1 + 1) 70 #[.int .i64 0, .int .i64 0, .int .i64 0, .int .i64 0, .int .i64 0, .int .i64 0] from (R_3)) ?_ ?_ ?_ ?_ ?_ ?_ ?_); (focus rfl); (focus rfl); (focus rfl); (focus exact Nat.le_of_ble_eq_true rfl); (focus exact gmatch_size); (focus (simp [Value.oneCell']; done)); intro w4_ b4_ h4_; have A_4 : Blk w4_ (w.heap.size) 25 #[.int .i64 k, .int .i64 t, .int .i64 s, .bool r, .int .i64 k2, .int .i64 t2, .int .i64 s2, .bool r2, .int .i64 n] := (A_3).put h4_ ne_A_R; have B_4 : Blk w4_ (w.heap.size + 1) 25 #[.int .i64 l, .int .i64 u, .int .i64 o, .bool z, .int .i64 l2, .int .i64 u2, .int .i64 o2, .bool z2, .int .i64 m] := (B_3).put h4_ ne_B_R; have R_4 : Blk w4_ (w.heap.size + 1 + 1) 70 #[.int .i64 xa, .int .i64 xb, .int .i64 xc, .int .i64 ya, .int .i64 yb, .int .i64 yc] := b4_; have P_4 : Blk w4_ (w.heap.size + 1 + 1 + 1) 68 #[.int .i64 0, .int .i64 1, .int .i64 2, .int .i64 0, .int .i64 2, .int .i64 1, .int .i64 1, .int .i64 0, .int .i64 2, .int .i64 1, .int .i64 2, .int .i64 0, .int .i64 2, .int .i64 0, .int .i64 1, .int .i64 2, .int .i64 1, .int .i64 0] := (P_3).put h4_ (Ne.symm ne_R_P); have M_4 : Blk w4_ (v1_.heap.size) 70 #[.int .i64 xa, .int .i64 xb, .int .i64 xc, .int .i64 ya, .int .i64 yb, .int .i64 yc] := (M_3).put h4_ (Ne.symm ne_R_M); have S_4 := pp (SW) h4_ ge_R; clear A_3 B_3 R_3 P_3 M_3 Mc0 Mc1 Mc2 Mc3 Mc4 Mc5 Ml Rc0 Rc1 Rc2 Rc3 Rc4 Rc5 Rl; clear h4_ b4_))
            have Rc0 := R_4.cellAt 0 rfl
            have Rc1 := R_4.cellAt 1 rfl
            have Rc2 := R_4.cellAt 2 rfl
            have Rc3 := R_4.cellAt 3 rfl
            have Rc4 := R_4.cellAt 4 rfl
            have Rc5 := R_4.cellAt 5 rfl
            have Rl := R_4.lt
            exact bodyPost_ret (v := .tuple #[.agg #[.int .i64 xa, .int .i64 xb, .int .i64 xc, .int .i64 ya, .int .i64 yb, .int .i64 yc], .bool true]) (by simp [results, Tryz.results31, go_sem, Rc0, Rc1, Rc2, Rc3, Rc4, Rc5]) rfl ⟨by rw [HX.out]; simp [matchCells, *], S_4⟩
          · have hx2 : (x == c) = false := by simpa using hxc
            have HX := Lib.hid (show res = (pairL.drop (6 * i + (j + 1))).find? (fun x => nv x.1 x.2 == c) from by rw [HRun2.out, HST.out, List.find?_cons]; simp only [hx, hx2])
            clear hxc
            go_wp2
            go_roundw
            case rel =>
              refine ⟨j + 1, by go_num, by omega, HX.out, S_3⟩
            case measure => simp [intOf]; omega
        · have HX := Lib.hid (show res = (pairL.drop (6 * (i + 1))).find? (fun x => nv x.1 x.2 == c) from by rw [HRun2.out, show 6 * i + j = 6 * (i + 1) by omega])
          go_wp2
          go_roundw
          case rel => exact ⟨i + 1, by go_num, by omega, HX.out, HQ3.out⟩
          case measure => simp [intOf]; omega
    · have HX := Lib.hid (show res = none from by rw [HRun.out, show 6 * i = 36 by omega]; rfl)
      have ne_A_R : w.heap.size ≠ w.heap.size + 1 + 1 := by omega
      have ne_B_R : w.heap.size + 1 ≠ w.heap.size + 1 + 1 := by omega
      have ne_R_P : w.heap.size + 1 + 1 ≠ w.heap.size + 1 + 1 + 1 := by omega
      have ge_R : w.heap.size ≤ w.heap.size + 1 + 1 := by omega
      have Rc0 := R_0.cellAt 0 rfl
      have Rc1 := R_0.cellAt 1 rfl
      have Rc2 := R_0.cellAt 2 rfl
      have Rc3 := R_0.cellAt 3 rfl
      have Rc4 := R_0.cellAt 4 rfl
      have Rc5 := R_0.cellAt 5 rfl
      have Rl := R_0.lt
      go_wp2_with (first
        | ((with_reducible refine store_sub (T := 70) (x := .tmp 6) (y := .tmp 47) (o := 0) (cs' := #[.int .i64 0, .int .i64 0, .int .i64 0, .int .i64 0, .int .i64 0, .int .i64 0]) (vs := #[.int .i64 0, .int .i64 0, .int .i64 0, .int .i64 0, .int .i64 0, .int .i64 0]) (show Blk _ (w.heap.size + 1 + 1) 70 #[.int .i64 0, .int .i64 0, .int .i64 0, .int .i64 0, .int .i64 0, .int .i64 0] from (R_0)) ?_ ?_ ?_ ?_ ?_ ?_ ?_); (focus rfl); (focus rfl); (focus rfl); (focus exact Nat.le_of_ble_eq_true rfl); (focus exact gmatch_size); (focus (simp [Value.oneCell']; done)); intro w1_ b1_ h1_; have A_1 : Blk w1_ (w.heap.size) 25 #[.int .i64 k, .int .i64 t, .int .i64 s, .bool r, .int .i64 k2, .int .i64 t2, .int .i64 s2, .bool r2, .int .i64 n] := (A_0).put h1_ ne_A_R; have B_1 : Blk w1_ (w.heap.size + 1) 25 #[.int .i64 l, .int .i64 u, .int .i64 o, .bool z, .int .i64 l2, .int .i64 u2, .int .i64 o2, .bool z2, .int .i64 m] := (B_0).put h1_ ne_B_R; have R_1 : Blk w1_ (w.heap.size + 1 + 1) 70 #[.int .i64 0, .int .i64 0, .int .i64 0, .int .i64 0, .int .i64 0, .int .i64 0] := b1_; have P_1 : Blk w1_ (w.heap.size + 1 + 1 + 1) 68 #[.int .i64 0, .int .i64 1, .int .i64 2, .int .i64 0, .int .i64 2, .int .i64 1, .int .i64 1, .int .i64 0, .int .i64 2, .int .i64 1, .int .i64 2, .int .i64 0, .int .i64 2, .int .i64 0, .int .i64 1, .int .i64 2, .int .i64 1, .int .i64 0] := (P_0).put h1_ (Ne.symm ne_R_P); have S_1 := pp (S_0) h1_ ge_R; clear A_0 B_0 R_0 P_0 S_0 Rc0 Rc1 Rc2 Rc3 Rc4 Rc5 Rl; clear h1_ b1_))
      have Rc0 := R_1.cellAt 0 rfl
      have Rc1 := R_1.cellAt 1 rfl
      have Rc2 := R_1.cellAt 2 rfl
      have Rc3 := R_1.cellAt 3 rfl
      have Rc4 := R_1.cellAt 4 rfl
      have Rc5 := R_1.cellAt 5 rfl
      have Rl := R_1.lt
      exact bodyPost_ret (v := .tuple #[.agg #[.int .i64 0, .int .i64 0, .int .i64 0, .int .i64 0, .int .i64 0, .int .i64 0], .bool false]) (by simp [results, Tryz.results31, go_sem, Rc0, Rc1, Rc2, Rc3, Rc4, Rc5]) rfl ⟨by rw [HX.out]; simp [matchCells, *], S_1⟩

end Go.Proofs.YtnhcamokcggnkaaGreatDoor
end
