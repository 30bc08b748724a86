/- Contract: the specification's winding of a string: two parts behind the sign. Printed by a program (gen_refpw.py). -/
import Derived.Test.YtccpkheiokjcdaaGreatDoorKPRef
namespace Go.Proofs.YtccpkheiokjcdaaGreatDoor
open Go.RowKit
attribute [local go_sem ↓] Go.wp_at_zero Go.wp_at_succ
attribute [local go_sem ↓ high] let_at0 let_at1 let_at2

theorem cells2 {B : Nat} {w : World} {A : Option Addr} {x y : Value} (h : CellsIn B w A [x, y]) : ∃ b o, A = some ⟨b, o, none⟩ ∧ w.cell? ⟨b, o, none⟩ = some x ∧ w.cell? ⟨b, o + 1, none⟩ = some y := by
  rcases h with h | ⟨b, o, h1, _, h3⟩
  · cases h
  · exact ⟨b, o, h1, h3 0 (by simp), h3 1 (by simp)⟩
theorem pn_ex (l : List UInt8) (hl : l.length ≤ 1000) (o : Bool) (h : (numP l).isSome = o) (w : World) : Calls Tryz.prog 25 #[.string ⟨l.toArray⟩] w fun e w' => (∃ x : Int, e = .returned (.tuple #[.int .i64 x, .bool o])) ∧ w = w' :=
  (parsedNumber_any l hl w).mono fun e w' ⟨⟨x, h1, _⟩, h2⟩ => ⟨⟨x, by rw [h1, h]⟩, h2⟩
theorem pn_some (l : List UInt8) (hl : l.length ≤ 1000) (k : Int) (h : numP l = some k) (w : World) : Calls Tryz.prog 25 #[.string ⟨l.toArray⟩] w fun e w' => e = .returned (.tuple #[.int .i64 k, .bool true]) ∧ w = w' :=
  (parsedNumber_any l hl w).mono fun e w' ⟨⟨x, h1, h3⟩, h2⟩ => ⟨by rw [h1, h, h3 k h]; rfl, h2⟩
theorem pn_full (l : List UInt8) (hl : l.length ≤ 1000) (o : Bool) (h : (numP l).isSome = o) (w : World) : Calls Tryz.prog 25 #[.string ⟨l.toArray⟩] w fun e w' => (∃ x : Int, e = .returned (.tuple #[.int .i64 x, .bool o]) ∧ ∀ k, numP l = some k → x = k) ∧ w = w' :=
  (parsedNumber_any l hl w).mono fun e w' ⟨⟨x, h1, h3⟩, h2⟩ => ⟨⟨x, by rw [h1, h], h3⟩, h2⟩

set_option maxHeartbeats 4000000 in
set_option maxRecDepth 100000 in
theorem refpw_two0p (l : List UInt8) (hl : l.length ≤ 1000) (h2 : 2 ≤ l.length) (hj : byteL l 0 = 121) (hb : byteL l 1 = 43) (X Y : List UInt8) (hp : splitL 47 (l.drop 2) = [X, Y]) (hX : X.length ≤ 1000) (hY : Y.length ≤ 1000) (o1 o2 : Bool) (hx1 : (numP X).isSome = o1) (hx2 : (numP Y).isSome = o2) (w : World) :
    Calls Tryz.prog 24 #[.string ⟨l.toArray⟩] w fun e w' => (∃ x1 x2 : Int, e = .returned (.tuple #[.agg #[.int .i64 0, .int .i64 x2, .int .i64 x1, .bool false], .bool (o1 && o2)]) ∧ (∀ k, numP X = some k → x1 = k) ∧ (∀ k, numP Y = some k → x2 = k)) ∧ Below w.heap.size w w' := by
  have h2' : ¬ (l.length : Int) < 2 := by omega
  have hbs := bsize l
  have hix := fun W => index_lit l 1 (by omega) 1 rfl W
  have hi0 := fun W => index_lit l 0 (by omega) 0 rfl W
  have n0 : (121 != byteL l 0) = false := by simp; omega
  have u1 : IntKind.i64.wrap 1 = 1 := IntWalk.i64_in _ (by decide)
  have u2 : IntKind.i64.wrap 2 = 2 := IntWalk.i64_in _ (by decide)
  have u3 : IntKind.i64.wrap 3 = 3 := IntWalk.i64_in _ (by decide)
  have hx : (⟨l.toArray⟩ : ByteArray).extract 2 l.length = ⟨(l.drop 2).toArray⟩ := by rw [extract_list, List.take_of_length_le (by simp)]
  have hsz : (2 : Int) ≤ (l.length : Int) := by omega
  have HL := Lib.hid lettersS_any
  have HC := Lib.hid (show ∀ w, Calls Tryz.prog 23 #[.string ⟨(l.drop 2).toArray⟩, .int .u8 47] w fun e w' => ∃ A cap, e = .returned (.slice A (splitL 47 (l.drop 2)).length cap) ∧ (splitL 47 (l.drop 2)).length ≤ cap ∧ CellsIn w'.heap.size w' A ((splitL 47 (l.drop 2)).map strV) ∧ Below w.heap.size w w' from fun w => refCut_any (l.drop 2) (by rw [List.length_drop]; omega) 47 (by decide) w)
  generalize byteL l 0 = A0 at *
  generalize byteL l 1 = B0 at *
  clear h2 hl hj
  subst hb
  all_goals
    go_enter Tryz.func24, Tryz.ntmps24
    go_wp2
    refine wp_loop_rounds 5 ?_
    have K0 : Blk ((w.alloc (.cells #[.int .i64 0, .int .i64 0, .int .i64 0, .bool false] 23)).alloc (.cells #[.int .i64 0, .int .i64 0, .int .i64 0, .bool false] 23)) (w.heap.size + 1) 23 #[.int .i64 0, .int .i64 0, .int .i64 0, .bool false] := Blk.newAt (by simp)
    have R0 : Blk ((w.alloc (.cells #[.int .i64 0, .int .i64 0, .int .i64 0, .bool false] 23)).alloc (.cells #[.int .i64 0, .int .i64 0, .int .i64 0, .bool false] 23)) w.heap.size 23 #[.int .i64 0, .int .i64 0, .int .i64 0, .bool false] := (Blk.newAt rfl).alloc
    have S0 : Below w.heap.size w ((w.alloc (.cells #[.int .i64 0, .int .i64 0, .int .i64 0, .bool false] 23)).alloc (.cells #[.int .i64 0, .int .i64 0, .int .i64 0, .bool false] 23)) := pa (pa pr)
    generalize (w.alloc (.cells #[.int .i64 0, .int .i64 0, .int .i64 0, .bool false] 23)).alloc (.cells #[.int .i64 0, .int .i64 0, .int .i64 0, .bool false] 23) = v0 at *
    have hne : w.heap.size ≠ w.heap.size + 1 := by omega
    have k0 := K0.cellAt 0 rfl
    have k1 := K0.cellAt 1 rfl
    have k2 := K0.cellAt 2 rfl
    have k3 := K0.cellAt 3 rfl
    have kf := K0.frozen 0
    have kl := K0.lt
    rw [rounds_succ]
    go_wp2
    refine region_below 11 follows_mixed (by kernel_rfl) ?_
    intro C hC
    simp only [List.take_succ_cons, List.take_zero, List.drop_succ_cons, List.drop_zero]
    repeat (first
      | ((with_reducible refine quiet_plain rfl (fun K hK => ?_)); (focus (apply quiet_val; (focus (intro w' hw; obtain ⟨hcq, hfq⟩ := bcell ((hC.out _).1 hw); go_simp; (first | done | rfl | (with_reducible exact call_same hw (HL.out _))))); (simp only [Act.put, List.setIfInBounds_toArray, List.set_cons_succ, List.set_cons_zero]); (with_reducible refine hK _ ?_); clear hK K)))
      | ((with_reducible refine quiet_skip ?_ ?_); (focus (first | (simp [Region.wanted, yielded]; done) | (simp [Region.wanted, yielded, undef]; done))); simp only [Act.put, List.setIfInBounds_toArray, List.set_cons_succ, List.set_cons_zero])
      | ((with_reducible refine quiet_go ?_ (fun K hK => ?_)); (focus (first | (simp [Region.wanted, yielded]; done) | (simp [Region.wanted, yielded, undef]; done))); (focus (apply quiet_val; (focus (intro w' hw; obtain ⟨hcq, hfq⟩ := bcell ((hC.out _).1 hw); go_simp; (first | done | rfl | (with_reducible exact call_same hw (HL.out _))))); (simp only [Act.put, List.setIfInBounds_toArray, List.set_cons_succ, List.set_cons_zero]); (with_reducible refine hK _ ?_); clear hK K))))
    refine wpQuiet_nil ?_
    intro w1 hb1
    replace hb1 := (hC.out _).1 hb1
    clear hC C
    obtain ⟨hc1, hf1⟩ := bcell hb1
    have Ka := K0.past hb1
    have Ra := R0.past hb1
    have Sa := pt S0 hb1
    clear hb1 hc1 hf1 k0 k1 k2 k3 kf kl K0 R0 S0
    obtain ⟨wa, rfl⟩ : ∃ v, v = w1 := ⟨_, rfl⟩
    have k0 := Ka.cellAt 0 rfl
    have k1 := Ka.cellAt 1 rfl
    have k2 := Ka.cellAt 2 rfl
    have k3 := Ka.cellAt 3 rfl
    have kf := Ka.frozen 0
    have kl := Ka.lt
    rw [hp] at HC
    have HX := Lib.hid (pn_full X hX o1 hx1)
    have HY := Lib.hid (pn_full Y hY o2 hx2)
    clear hx1 hx2 hX hY
    go_wp2_with (first | (go_at_call 23; (with_reducible refine (HC.out _).mono ?_); rintro e w2 ⟨A, cap, rfl, hcap, hcs, hB2⟩; obtain ⟨pb, po, rfl, p0, p1⟩ := cells2 hcs; have Kb := Ka.past hB2; have Rb := Ra.past hB2; have Sb := pt Sa hB2; clear k0 k1 k2 k3 kf kl Ka Ra Sa hB2; have k0 := Kb.cellAt 0 rfl; have k1 := Kb.cellAt 1 rfl; have k2 := Kb.cellAt 2 rfl; have k3 := Kb.cellAt 3 rfl; have kl := Kb.lt; have kf1 := Kb.frozen 1; have kf2 := Kb.frozen 2; have kf3 := Kb.frozen 3; have r0 := Rb.cellAt 0 rfl; have r1 := Rb.cellAt 1 rfl; have r2 := Rb.cellAt 2 rfl; have r3 := Rb.cellAt 3 rfl; have s0 := Rb.frozen 0; have s1 := Rb.frozen 1; have s2 := Rb.frozen 2; have s3 := Rb.frozen 3; have rl := Rb.lt) | (go_at_call 25; (with_reducible refine (HX.out _).mono ?_); rintro e w' ⟨⟨x1, rfl, hq1⟩, rfl⟩) | (go_at_call 25; (with_reducible refine (HY.out _).mono ?_); rintro e w' ⟨⟨x2, rfl, hq2⟩, rfl⟩))
    go_region
    have Kc : Blk ((((w2.setCell ⟨w.heap.size + 1, 2, none⟩ (.int .i64 x1)).setCell ⟨w.heap.size + 1, 1, none⟩ (.int .i64 x2)).setCell ⟨w.heap.size + 1, 3, none⟩ (.bool false)).drew) (w.heap.size + 1) 23 #[.int .i64 0, .int .i64 x2, .int .i64 x1, .bool false] := (((Kb.set_ 2 _).set_ 1 _).set_ 3 _).drew
    have Rc : Blk ((((w2.setCell ⟨w.heap.size + 1, 2, none⟩ (.int .i64 x1)).setCell ⟨w.heap.size + 1, 1, none⟩ (.int .i64 x2)).setCell ⟨w.heap.size + 1, 3, none⟩ (.bool false)).drew) w.heap.size 23 #[.int .i64 0, .int .i64 0, .int .i64 0, .bool false] := (((Rb.far hne).far hne).far hne).drew
    have Sc : Below w.heap.size w ((((w2.setCell ⟨w.heap.size + 1, 2, none⟩ (.int .i64 x1)).setCell ⟨w.heap.size + 1, 1, none⟩ (.int .i64 x2)).setCell ⟨w.heap.size + 1, 3, none⟩ (.bool false)).drew) := pd (ps (ps (ps Sb (by simp)) (by simp)) (by simp))
    clear k0 k1 k2 k3 kl kf1 kf2 kf3 r0 r1 r2 r3 s0 s1 s2 s3 rl Kb Rb Sb p0 p1 hcs hcap
    generalize ((((w2.setCell ⟨w.heap.size + 1, 2, none⟩ (.int .i64 x1)).setCell ⟨w.heap.size + 1, 1, none⟩ (.int .i64 x2)).setCell ⟨w.heap.size + 1, 3, none⟩ (.bool false)).drew) = w3 at *
    have k0 := Kc.cellAt 0 rfl
    have k1 := Kc.cellAt 1 rfl
    have k2 := Kc.cellAt 2 rfl
    have k3 := Kc.cellAt 3 rfl
    have kl := Kc.lt
    have r0 := Rc.cellAt 0 rfl
    have r1 := Rc.cellAt 1 rfl
    have r2 := Rc.cellAt 2 rfl
    have r3 := Rc.cellAt 3 rfl
    have s0 := Rc.frozen 0
    have s1 := Rc.frozen 1
    have s2 := Rc.frozen 2
    have s3 := Rc.frozen 3
    have rl := Rc.lt
    have hfin : ∀ Wf : World, Below w.heap.size w Wf → (∃ x1' x2' : Int, Ending.returned (.tuple #[.agg #[.int .i64 0, .int .i64 x2, .int .i64 x1, .bool false], .bool (o1 && o2)]) = .returned (.tuple #[.agg #[.int .i64 0, .int .i64 x2', .int .i64 x1', .bool false], .bool (o1 && o2)]) ∧ (∀ k, numP X = some k → x1' = k) ∧ (∀ k, numP Y = some k → x2' = k)) ∧ Below w.heap.size w Wf := fun _ q => ⟨⟨x1, x2, rfl, hq1, hq2⟩, q⟩
    have HF := Lib.hid hfin
    clear hfin hq1 hq2
    cases o1
    all_goals
      go_wp2
      exact bodyPost_ret (v := .tuple #[.agg #[.int .i64 0, .int .i64 x2, .int .i64 x1, .bool false], .bool (_ && o2)]) (by simp [results, Tryz.results24, go_sem, r0, r1, r2, r3, rl]) rfl (HF.out _ (by repeat (first | exact Sc | refine ps ?_ (by first | (simp; done) | (simp; omega)))))

set_option maxHeartbeats 4000000 in
set_option maxRecDepth 100000 in
theorem refpw_two0m (l : List UInt8) (hl : l.length ≤ 1000) (h2 : 2 ≤ l.length) (hj : byteL l 0 = 121) (hb : byteL l 1 = 45) (X Y : List UInt8) (hp : splitL 47 (l.drop 2) = [X, Y]) (hX : X.length ≤ 1000) (hY : Y.length ≤ 1000) (o1 o2 : Bool) (hx1 : (numP X).isSome = o1) (hx2 : (numP Y).isSome = o2) (w : World) :
    Calls Tryz.prog 24 #[.string ⟨l.toArray⟩] w fun e w' => (∃ x1 x2 : Int, e = .returned (.tuple #[.agg #[.int .i64 0, .int .i64 x2, .int .i64 x1, .bool true], .bool (o1 && o2)]) ∧ (∀ k, numP X = some k → x1 = k) ∧ (∀ k, numP Y = some k → x2 = k)) ∧ Below w.heap.size w w' := by
  have h2' : ¬ (l.length : Int) < 2 := by omega
  have hbs := bsize l
  have hix := fun W => index_lit l 1 (by omega) 1 rfl W
  have hi0 := fun W => index_lit l 0 (by omega) 0 rfl W
  have n0 : (121 != byteL l 0) = false := by simp; omega
  have u1 : IntKind.i64.wrap 1 = 1 := IntWalk.i64_in _ (by decide)
  have u2 : IntKind.i64.wrap 2 = 2 := IntWalk.i64_in _ (by decide)
  have u3 : IntKind.i64.wrap 3 = 3 := IntWalk.i64_in _ (by decide)
  have hx : (⟨l.toArray⟩ : ByteArray).extract 2 l.length = ⟨(l.drop 2).toArray⟩ := by rw [extract_list, List.take_of_length_le (by simp)]
  have hsz : (2 : Int) ≤ (l.length : Int) := by omega
  have HL := Lib.hid lettersS_any
  have HC := Lib.hid (show ∀ w, Calls Tryz.prog 23 #[.string ⟨(l.drop 2).toArray⟩, .int .u8 47] w fun e w' => ∃ A cap, e = .returned (.slice A (splitL 47 (l.drop 2)).length cap) ∧ (splitL 47 (l.drop 2)).length ≤ cap ∧ CellsIn w'.heap.size w' A ((splitL 47 (l.drop 2)).map strV) ∧ Below w.heap.size w w' from fun w => refCut_any (l.drop 2) (by rw [List.length_drop]; omega) 47 (by decide) w)
  generalize byteL l 0 = A0 at *
  generalize byteL l 1 = B0 at *
  clear h2 hl hj
  subst hb
  all_goals
    go_enter Tryz.func24, Tryz.ntmps24
    go_wp2
    refine wp_loop_rounds 5 ?_
    have K0 : Blk ((w.alloc (.cells #[.int .i64 0, .int .i64 0, .int .i64 0, .bool false] 23)).alloc (.cells #[.int .i64 0, .int .i64 0, .int .i64 0, .bool false] 23)) (w.heap.size + 1) 23 #[.int .i64 0, .int .i64 0, .int .i64 0, .bool false] := Blk.newAt (by simp)
    have R0 : Blk ((w.alloc (.cells #[.int .i64 0, .int .i64 0, .int .i64 0, .bool false] 23)).alloc (.cells #[.int .i64 0, .int .i64 0, .int .i64 0, .bool false] 23)) w.heap.size 23 #[.int .i64 0, .int .i64 0, .int .i64 0, .bool false] := (Blk.newAt rfl).alloc
    have S0 : Below w.heap.size w ((w.alloc (.cells #[.int .i64 0, .int .i64 0, .int .i64 0, .bool false] 23)).alloc (.cells #[.int .i64 0, .int .i64 0, .int .i64 0, .bool false] 23)) := pa (pa pr)
    generalize (w.alloc (.cells #[.int .i64 0, .int .i64 0, .int .i64 0, .bool false] 23)).alloc (.cells #[.int .i64 0, .int .i64 0, .int .i64 0, .bool false] 23) = v0 at *
    have hne : w.heap.size ≠ w.heap.size + 1 := by omega
    have k0 := K0.cellAt 0 rfl
    have k1 := K0.cellAt 1 rfl
    have k2 := K0.cellAt 2 rfl
    have k3 := K0.cellAt 3 rfl
    have kf := K0.frozen 0
    have kl := K0.lt
    rw [rounds_succ]
    go_wp2
    refine region_below 11 follows_mixed (by kernel_rfl) ?_
    intro C hC
    simp only [List.take_succ_cons, List.take_zero, List.drop_succ_cons, List.drop_zero]
    repeat (first
      | ((with_reducible refine quiet_plain rfl (fun K hK => ?_)); (focus (apply quiet_val; (focus (intro w' hw; obtain ⟨hcq, hfq⟩ := bcell ((hC.out _).1 hw); go_simp; (first | done | rfl | (with_reducible exact call_same hw (HL.out _))))); (simp only [Act.put, List.setIfInBounds_toArray, List.set_cons_succ, List.set_cons_zero]); (with_reducible refine hK _ ?_); clear hK K)))
      | ((with_reducible refine quiet_skip ?_ ?_); (focus (first | (simp [Region.wanted, yielded]; done) | (simp [Region.wanted, yielded, undef]; done))); simp only [Act.put, List.setIfInBounds_toArray, List.set_cons_succ, List.set_cons_zero])
      | ((with_reducible refine quiet_go ?_ (fun K hK => ?_)); (focus (first | (simp [Region.wanted, yielded]; done) | (simp [Region.wanted, yielded, undef]; done))); (focus (apply quiet_val; (focus (intro w' hw; obtain ⟨hcq, hfq⟩ := bcell ((hC.out _).1 hw); go_simp; (first | done | rfl | (with_reducible exact call_same hw (HL.out _))))); (simp only [Act.put, List.setIfInBounds_toArray, List.set_cons_succ, List.set_cons_zero]); (with_reducible refine hK _ ?_); clear hK K))))
    refine wpQuiet_nil ?_
    intro w1 hb1
    replace hb1 := (hC.out _).1 hb1
    clear hC C
    obtain ⟨hc1, hf1⟩ := bcell hb1
    have Ka := K0.past hb1
    have Ra := R0.past hb1
    have Sa := pt S0 hb1
    clear hb1 hc1 hf1 k0 k1 k2 k3 kf kl K0 R0 S0
    obtain ⟨wa, rfl⟩ : ∃ v, v = w1 := ⟨_, rfl⟩
    have k0 := Ka.cellAt 0 rfl
    have k1 := Ka.cellAt 1 rfl
    have k2 := Ka.cellAt 2 rfl
    have k3 := Ka.cellAt 3 rfl
    have kf := Ka.frozen 0
    have kl := Ka.lt
    rw [hp] at HC
    have HX := Lib.hid (pn_full X hX o1 hx1)
    have HY := Lib.hid (pn_full Y hY o2 hx2)
    clear hx1 hx2 hX hY
    go_wp2_with (first | (go_at_call 23; (with_reducible refine (HC.out _).mono ?_); rintro e w2 ⟨A, cap, rfl, hcap, hcs, hB2⟩; obtain ⟨pb, po, rfl, p0, p1⟩ := cells2 hcs; have Kb := Ka.past hB2; have Rb := Ra.past hB2; have Sb := pt Sa hB2; clear k0 k1 k2 k3 kf kl Ka Ra Sa hB2; have k0 := Kb.cellAt 0 rfl; have k1 := Kb.cellAt 1 rfl; have k2 := Kb.cellAt 2 rfl; have k3 := Kb.cellAt 3 rfl; have kl := Kb.lt; have kf1 := Kb.frozen 1; have kf2 := Kb.frozen 2; have kf3 := Kb.frozen 3; have r0 := Rb.cellAt 0 rfl; have r1 := Rb.cellAt 1 rfl; have r2 := Rb.cellAt 2 rfl; have r3 := Rb.cellAt 3 rfl; have s0 := Rb.frozen 0; have s1 := Rb.frozen 1; have s2 := Rb.frozen 2; have s3 := Rb.frozen 3; have rl := Rb.lt) | (go_at_call 25; (with_reducible refine (HX.out _).mono ?_); rintro e w' ⟨⟨x1, rfl, hq1⟩, rfl⟩) | (go_at_call 25; (with_reducible refine (HY.out _).mono ?_); rintro e w' ⟨⟨x2, rfl, hq2⟩, rfl⟩))
    go_region
    have Kc : Blk ((((w2.setCell ⟨w.heap.size + 1, 2, none⟩ (.int .i64 x1)).setCell ⟨w.heap.size + 1, 1, none⟩ (.int .i64 x2)).setCell ⟨w.heap.size + 1, 3, none⟩ (.bool true)).drew) (w.heap.size + 1) 23 #[.int .i64 0, .int .i64 x2, .int .i64 x1, .bool true] := (((Kb.set_ 2 _).set_ 1 _).set_ 3 _).drew
    have Rc : Blk ((((w2.setCell ⟨w.heap.size + 1, 2, none⟩ (.int .i64 x1)).setCell ⟨w.heap.size + 1, 1, none⟩ (.int .i64 x2)).setCell ⟨w.heap.size + 1, 3, none⟩ (.bool true)).drew) w.heap.size 23 #[.int .i64 0, .int .i64 0, .int .i64 0, .bool false] := (((Rb.far hne).far hne).far hne).drew
    have Sc : Below w.heap.size w ((((w2.setCell ⟨w.heap.size + 1, 2, none⟩ (.int .i64 x1)).setCell ⟨w.heap.size + 1, 1, none⟩ (.int .i64 x2)).setCell ⟨w.heap.size + 1, 3, none⟩ (.bool true)).drew) := pd (ps (ps (ps Sb (by simp)) (by simp)) (by simp))
    clear k0 k1 k2 k3 kl kf1 kf2 kf3 r0 r1 r2 r3 s0 s1 s2 s3 rl Kb Rb Sb p0 p1 hcs hcap
    generalize ((((w2.setCell ⟨w.heap.size + 1, 2, none⟩ (.int .i64 x1)).setCell ⟨w.heap.size + 1, 1, none⟩ (.int .i64 x2)).setCell ⟨w.heap.size + 1, 3, none⟩ (.bool true)).drew) = w3 at *
    have k0 := Kc.cellAt 0 rfl
    have k1 := Kc.cellAt 1 rfl
    have k2 := Kc.cellAt 2 rfl
    have k3 := Kc.cellAt 3 rfl
    have kl := Kc.lt
    have r0 := Rc.cellAt 0 rfl
    have r1 := Rc.cellAt 1 rfl
    have r2 := Rc.cellAt 2 rfl
    have r3 := Rc.cellAt 3 rfl
    have s0 := Rc.frozen 0
    have s1 := Rc.frozen 1
    have s2 := Rc.frozen 2
    have s3 := Rc.frozen 3
    have rl := Rc.lt
    have hfin : ∀ Wf : World, Below w.heap.size w Wf → (∃ x1' x2' : Int, Ending.returned (.tuple #[.agg #[.int .i64 0, .int .i64 x2, .int .i64 x1, .bool true], .bool (o1 && o2)]) = .returned (.tuple #[.agg #[.int .i64 0, .int .i64 x2', .int .i64 x1', .bool true], .bool (o1 && o2)]) ∧ (∀ k, numP X = some k → x1' = k) ∧ (∀ k, numP Y = some k → x2' = k)) ∧ Below w.heap.size w Wf := fun _ q => ⟨⟨x1, x2, rfl, hq1, hq2⟩, q⟩
    have HF := Lib.hid hfin
    clear hfin hq1 hq2
    cases o1
    all_goals
      go_wp2
      exact bodyPost_ret (v := .tuple #[.agg #[.int .i64 0, .int .i64 x2, .int .i64 x1, .bool true], .bool (_ && o2)]) (by simp [results, Tryz.results24, go_sem, r0, r1, r2, r3, rl]) rfl (HF.out _ (by repeat (first | exact Sc | refine ps ?_ (by first | (simp; done) | (simp; omega)))))

set_option maxHeartbeats 4000000 in
set_option maxRecDepth 100000 in
theorem refpw_two1p (l : List UInt8) (hl : l.length ≤ 1000) (h2 : 2 ≤ l.length) (hj : byteL l 0 = 100) (hb : byteL l 1 = 43) (X Y : List UInt8) (hp : splitL 47 (l.drop 2) = [X, Y]) (hX : X.length ≤ 1000) (hY : Y.length ≤ 1000) (o1 o2 : Bool) (hx1 : (numP X).isSome = o1) (hx2 : (numP Y).isSome = o2) (w : World) :
    Calls Tryz.prog 24 #[.string ⟨l.toArray⟩] w fun e w' => (∃ x1 x2 : Int, e = .returned (.tuple #[.agg #[.int .i64 1, .int .i64 x2, .int .i64 x1, .bool false], .bool (o1 && o2)]) ∧ (∀ k, numP X = some k → x1 = k) ∧ (∀ k, numP Y = some k → x2 = k)) ∧ Below w.heap.size w w' := by
  have h2' : ¬ (l.length : Int) < 2 := by omega
  have hbs := bsize l
  have hix := fun W => index_lit l 1 (by omega) 1 rfl W
  have hi0 := fun W => index_lit l 0 (by omega) 0 rfl W
  have n0 : (121 != byteL l 0) = true := by simp; omega
  have n1 : (100 != byteL l 0) = false := by simp; omega
  have u1 : IntKind.i64.wrap 1 = 1 := IntWalk.i64_in _ (by decide)
  have u2 : IntKind.i64.wrap 2 = 2 := IntWalk.i64_in _ (by decide)
  have u3 : IntKind.i64.wrap 3 = 3 := IntWalk.i64_in _ (by decide)
  have hx : (⟨l.toArray⟩ : ByteArray).extract 2 l.length = ⟨(l.drop 2).toArray⟩ := by rw [extract_list, List.take_of_length_le (by simp)]
  have hsz : (2 : Int) ≤ (l.length : Int) := by omega
  have HL := Lib.hid lettersS_any
  have HC := Lib.hid (show ∀ w, Calls Tryz.prog 23 #[.string ⟨(l.drop 2).toArray⟩, .int .u8 47] w fun e w' => ∃ A cap, e = .returned (.slice A (splitL 47 (l.drop 2)).length cap) ∧ (splitL 47 (l.drop 2)).length ≤ cap ∧ CellsIn w'.heap.size w' A ((splitL 47 (l.drop 2)).map strV) ∧ Below w.heap.size w w' from fun w => refCut_any (l.drop 2) (by rw [List.length_drop]; omega) 47 (by decide) w)
  generalize byteL l 0 = A0 at *
  generalize byteL l 1 = B0 at *
  clear h2 hl hj
  subst hb
  all_goals
    go_enter Tryz.func24, Tryz.ntmps24
    go_wp2
    refine wp_loop_rounds 5 ?_
    have K0 : Blk ((w.alloc (.cells #[.int .i64 0, .int .i64 0, .int .i64 0, .bool false] 23)).alloc (.cells #[.int .i64 0, .int .i64 0, .int .i64 0, .bool false] 23)) (w.heap.size + 1) 23 #[.int .i64 0, .int .i64 0, .int .i64 0, .bool false] := Blk.newAt (by simp)
    have R0 : Blk ((w.alloc (.cells #[.int .i64 0, .int .i64 0, .int .i64 0, .bool false] 23)).alloc (.cells #[.int .i64 0, .int .i64 0, .int .i64 0, .bool false] 23)) w.heap.size 23 #[.int .i64 0, .int .i64 0, .int .i64 0, .bool false] := (Blk.newAt rfl).alloc
    have S0 : Below w.heap.size w ((w.alloc (.cells #[.int .i64 0, .int .i64 0, .int .i64 0, .bool false] 23)).alloc (.cells #[.int .i64 0, .int .i64 0, .int .i64 0, .bool false] 23)) := pa (pa pr)
    generalize (w.alloc (.cells #[.int .i64 0, .int .i64 0, .int .i64 0, .bool false] 23)).alloc (.cells #[.int .i64 0, .int .i64 0, .int .i64 0, .bool false] 23) = v0 at *
    have hne : w.heap.size ≠ w.heap.size + 1 := by omega
    have k0 := K0.cellAt 0 rfl
    have k1 := K0.cellAt 1 rfl
    have k2 := K0.cellAt 2 rfl
    have k3 := K0.cellAt 3 rfl
    have kf := K0.frozen 0
    have kl := K0.lt
    rw [rounds_succ]
    go_wp2
    refine region_below 11 follows_mixed (by kernel_rfl) ?_
    intro C hC
    simp only [List.take_succ_cons, List.take_zero, List.drop_succ_cons, List.drop_zero]
    repeat (first
      | ((with_reducible refine quiet_plain rfl (fun K hK => ?_)); (focus (apply quiet_val; (focus (intro w' hw; obtain ⟨hcq, hfq⟩ := bcell ((hC.out _).1 hw); go_simp; (first | done | rfl | (with_reducible exact call_same hw (HL.out _))))); (simp only [Act.put, List.setIfInBounds_toArray, List.set_cons_succ, List.set_cons_zero]); (with_reducible refine hK _ ?_); clear hK K)))
      | ((with_reducible refine quiet_skip ?_ ?_); (focus (first | (simp [Region.wanted, yielded]; done) | (simp [Region.wanted, yielded, undef]; done))); simp only [Act.put, List.setIfInBounds_toArray, List.set_cons_succ, List.set_cons_zero])
      | ((with_reducible refine quiet_go ?_ (fun K hK => ?_)); (focus (first | (simp [Region.wanted, yielded]; done) | (simp [Region.wanted, yielded, undef]; done))); (focus (apply quiet_val; (focus (intro w' hw; obtain ⟨hcq, hfq⟩ := bcell ((hC.out _).1 hw); go_simp; (first | done | rfl | (with_reducible exact call_same hw (HL.out _))))); (simp only [Act.put, List.setIfInBounds_toArray, List.set_cons_succ, List.set_cons_zero]); (with_reducible refine hK _ ?_); clear hK K))))
    refine wpQuiet_nil ?_
    intro w1 hb1
    replace hb1 := (hC.out _).1 hb1
    clear hC C
    obtain ⟨hc1, hf1⟩ := bcell hb1
    have Ka := K0.past hb1
    have Ra := R0.past hb1
    have Sa := pt S0 hb1
    clear hb1 hc1 hf1 k0 k1 k2 k3 kf kl K0 R0 S0
    obtain ⟨wa, rfl⟩ : ∃ v, v = w1 := ⟨_, rfl⟩
    have k0 := Ka.cellAt 0 rfl
    have k1 := Ka.cellAt 1 rfl
    have k2 := Ka.cellAt 2 rfl
    have k3 := Ka.cellAt 3 rfl
    have kf := Ka.frozen 0
    have kl := Ka.lt
    go_wp2
    have K1 : Blk (wa.setCell ⟨w.heap.size + 1, 0, none⟩ (.int .i64 1)) (w.heap.size + 1) 23 #[.int .i64 1, .int .i64 0, .int .i64 0, .bool false] := Ka.set_ 0 _
    have R1 : Blk (wa.setCell ⟨w.heap.size + 1, 0, none⟩ (.int .i64 1)) w.heap.size 23 #[.int .i64 0, .int .i64 0, .int .i64 0, .bool false] := Ra.far hne
    have S1 : Below w.heap.size w (wa.setCell ⟨w.heap.size + 1, 0, none⟩ (.int .i64 1)) := ps Sa (by simp)
    clear k0 k1 k2 k3 kf kl Ka Ra Sa
    generalize wa.setCell ⟨w.heap.size + 1, 0, none⟩ (.int .i64 1) = v1 at *
    have k0 := K1.cellAt 0 rfl
    have k1 := K1.cellAt 1 rfl
    have k2 := K1.cellAt 2 rfl
    have k3 := K1.cellAt 3 rfl
    have kf := K1.frozen 0
    have kl := K1.lt
    rw [rounds_succ]
    go_wp2
    refine region_below 11 follows_mixed (by kernel_rfl) ?_
    intro C hC
    simp only [List.take_succ_cons, List.take_zero, List.drop_succ_cons, List.drop_zero]
    repeat (first
      | ((with_reducible refine quiet_plain rfl (fun K hK => ?_)); (focus (apply quiet_val; (focus (intro w' hw; obtain ⟨hcq, hfq⟩ := bcell ((hC.out _).1 hw); go_simp; (first | done | rfl | (with_reducible exact call_same hw (HL.out _))))); (simp only [Act.put, List.setIfInBounds_toArray, List.set_cons_succ, List.set_cons_zero]); (with_reducible refine hK _ ?_); clear hK K)))
      | ((with_reducible refine quiet_skip ?_ ?_); (focus (first | (simp [Region.wanted, yielded]; done) | (simp [Region.wanted, yielded, undef]; done))); simp only [Act.put, List.setIfInBounds_toArray, List.set_cons_succ, List.set_cons_zero])
      | ((with_reducible refine quiet_go ?_ (fun K hK => ?_)); (focus (first | (simp [Region.wanted, yielded]; done) | (simp [Region.wanted, yielded, undef]; done))); (focus (apply quiet_val; (focus (intro w' hw; obtain ⟨hcq, hfq⟩ := bcell ((hC.out _).1 hw); go_simp; (first | done | rfl | (with_reducible exact call_same hw (HL.out _))))); (simp only [Act.put, List.setIfInBounds_toArray, List.set_cons_succ, List.set_cons_zero]); (with_reducible refine hK _ ?_); clear hK K))))
    refine wpQuiet_nil ?_
    intro w1 hb1
    replace hb1 := (hC.out _).1 hb1
    clear hC C
    obtain ⟨hc1, hf1⟩ := bcell hb1
    have Ka := K1.past hb1
    have Ra := R1.past hb1
    have Sa := pt S1 hb1
    clear hb1 hc1 hf1 k0 k1 k2 k3 kf kl K1 R1 S1
    obtain ⟨wa, rfl⟩ : ∃ v, v = w1 := ⟨_, rfl⟩
    have k0 := Ka.cellAt 0 rfl
    have k1 := Ka.cellAt 1 rfl
    have k2 := Ka.cellAt 2 rfl
    have k3 := Ka.cellAt 3 rfl
    have kf := Ka.frozen 0
    have kl := Ka.lt
    rw [hp] at HC
    have HX := Lib.hid (pn_full X hX o1 hx1)
    have HY := Lib.hid (pn_full Y hY o2 hx2)
    clear hx1 hx2 hX hY
    go_wp2_with (first | (go_at_call 23; (with_reducible refine (HC.out _).mono ?_); rintro e w2 ⟨A, cap, rfl, hcap, hcs, hB2⟩; obtain ⟨pb, po, rfl, p0, p1⟩ := cells2 hcs; have Kb := Ka.past hB2; have Rb := Ra.past hB2; have Sb := pt Sa hB2; clear k0 k1 k2 k3 kf kl Ka Ra Sa hB2; have k0 := Kb.cellAt 0 rfl; have k1 := Kb.cellAt 1 rfl; have k2 := Kb.cellAt 2 rfl; have k3 := Kb.cellAt 3 rfl; have kl := Kb.lt; have kf1 := Kb.frozen 1; have kf2 := Kb.frozen 2; have kf3 := Kb.frozen 3; have r0 := Rb.cellAt 0 rfl; have r1 := Rb.cellAt 1 rfl; have r2 := Rb.cellAt 2 rfl; have r3 := Rb.cellAt 3 rfl; have s0 := Rb.frozen 0; have s1 := Rb.frozen 1; have s2 := Rb.frozen 2; have s3 := Rb.frozen 3; have rl := Rb.lt) | (go_at_call 25; (with_reducible refine (HX.out _).mono ?_); rintro e w' ⟨⟨x1, rfl, hq1⟩, rfl⟩) | (go_at_call 25; (with_reducible refine (HY.out _).mono ?_); rintro e w' ⟨⟨x2, rfl, hq2⟩, rfl⟩))
    go_region
    have Kc : Blk ((((w2.setCell ⟨w.heap.size + 1, 2, none⟩ (.int .i64 x1)).setCell ⟨w.heap.size + 1, 1, none⟩ (.int .i64 x2)).setCell ⟨w.heap.size + 1, 3, none⟩ (.bool false)).drew) (w.heap.size + 1) 23 #[.int .i64 1, .int .i64 x2, .int .i64 x1, .bool false] := (((Kb.set_ 2 _).set_ 1 _).set_ 3 _).drew
    have Rc : Blk ((((w2.setCell ⟨w.heap.size + 1, 2, none⟩ (.int .i64 x1)).setCell ⟨w.heap.size + 1, 1, none⟩ (.int .i64 x2)).setCell ⟨w.heap.size + 1, 3, none⟩ (.bool false)).drew) w.heap.size 23 #[.int .i64 0, .int .i64 0, .int .i64 0, .bool false] := (((Rb.far hne).far hne).far hne).drew
    have Sc : Below w.heap.size w ((((w2.setCell ⟨w.heap.size + 1, 2, none⟩ (.int .i64 x1)).setCell ⟨w.heap.size + 1, 1, none⟩ (.int .i64 x2)).setCell ⟨w.heap.size + 1, 3, none⟩ (.bool false)).drew) := pd (ps (ps (ps Sb (by simp)) (by simp)) (by simp))
    clear k0 k1 k2 k3 kl kf1 kf2 kf3 r0 r1 r2 r3 s0 s1 s2 s3 rl Kb Rb Sb p0 p1 hcs hcap
    generalize ((((w2.setCell ⟨w.heap.size + 1, 2, none⟩ (.int .i64 x1)).setCell ⟨w.heap.size + 1, 1, none⟩ (.int .i64 x2)).setCell ⟨w.heap.size + 1, 3, none⟩ (.bool false)).drew) = w3 at *
    have k0 := Kc.cellAt 0 rfl
    have k1 := Kc.cellAt 1 rfl
    have k2 := Kc.cellAt 2 rfl
    have k3 := Kc.cellAt 3 rfl
    have kl := Kc.lt
    have r0 := Rc.cellAt 0 rfl
    have r1 := Rc.cellAt 1 rfl
    have r2 := Rc.cellAt 2 rfl
    have r3 := Rc.cellAt 3 rfl
    have s0 := Rc.frozen 0
    have s1 := Rc.frozen 1
    have s2 := Rc.frozen 2
    have s3 := Rc.frozen 3
    have rl := Rc.lt
    have hfin : ∀ Wf : World, Below w.heap.size w Wf → (∃ x1' x2' : Int, Ending.returned (.tuple #[.agg #[.int .i64 1, .int .i64 x2, .int .i64 x1, .bool false], .bool (o1 && o2)]) = .returned (.tuple #[.agg #[.int .i64 1, .int .i64 x2', .int .i64 x1', .bool false], .bool (o1 && o2)]) ∧ (∀ k, numP X = some k → x1' = k) ∧ (∀ k, numP Y = some k → x2' = k)) ∧ Below w.heap.size w Wf := fun _ q => ⟨⟨x1, x2, rfl, hq1, hq2⟩, q⟩
    have HF := Lib.hid hfin
    clear hfin hq1 hq2
    cases o1
    all_goals
      go_wp2
      exact bodyPost_ret (v := .tuple #[.agg #[.int .i64 1, .int .i64 x2, .int .i64 x1, .bool false], .bool (_ && o2)]) (by simp [results, Tryz.results24, go_sem, r0, r1, r2, r3, rl]) rfl (HF.out _ (by repeat (first | exact Sc | refine ps ?_ (by first | (simp; done) | (simp; omega)))))

set_option maxHeartbeats 4000000 in
set_option maxRecDepth 100000 in
theorem refpw_two1m (l : List UInt8) (hl : l.length ≤ 1000) (h2 : 2 ≤ l.length) (hj : byteL l 0 = 100) (hb : byteL l 1 = 45) (X Y : List UInt8) (hp : splitL 47 (l.drop 2) = [X, Y]) (hX : X.length ≤ 1000) (hY : Y.length ≤ 1000) (o1 o2 : Bool) (hx1 : (numP X).isSome = o1) (hx2 : (numP Y).isSome = o2) (w : World) :
    Calls Tryz.prog 24 #[.string ⟨l.toArray⟩] w fun e w' => (∃ x1 x2 : Int, e = .returned (.tuple #[.agg #[.int .i64 1, .int .i64 x2, .int .i64 x1, .bool true], .bool (o1 && o2)]) ∧ (∀ k, numP X = some k → x1 = k) ∧ (∀ k, numP Y = some k → x2 = k)) ∧ Below w.heap.size w w' := by
  have h2' : ¬ (l.length : Int) < 2 := by omega
  have hbs := bsize l
  have hix := fun W => index_lit l 1 (by omega) 1 rfl W
  have hi0 := fun W => index_lit l 0 (by omega) 0 rfl W
  have n0 : (121 != byteL l 0) = true := by simp; omega
  have n1 : (100 != byteL l 0) = false := by simp; omega
  have u1 : IntKind.i64.wrap 1 = 1 := IntWalk.i64_in _ (by decide)
  have u2 : IntKind.i64.wrap 2 = 2 := IntWalk.i64_in _ (by decide)
  have u3 : IntKind.i64.wrap 3 = 3 := IntWalk.i64_in _ (by decide)
  have hx : (⟨l.toArray⟩ : ByteArray).extract 2 l.length = ⟨(l.drop 2).toArray⟩ := by rw [extract_list, List.take_of_length_le (by simp)]
  have hsz : (2 : Int) ≤ (l.length : Int) := by omega
  have HL := Lib.hid lettersS_any
  have HC := Lib.hid (show ∀ w, Calls Tryz.prog 23 #[.string ⟨(l.drop 2).toArray⟩, .int .u8 47] w fun e w' => ∃ A cap, e = .returned (.slice A (splitL 47 (l.drop 2)).length cap) ∧ (splitL 47 (l.drop 2)).length ≤ cap ∧ CellsIn w'.heap.size w' A ((splitL 47 (l.drop 2)).map strV) ∧ Below w.heap.size w w' from fun w => refCut_any (l.drop 2) (by rw [List.length_drop]; omega) 47 (by decide) w)
  generalize byteL l 0 = A0 at *
  generalize byteL l 1 = B0 at *
  clear h2 hl hj
  subst hb
  all_goals
    go_enter Tryz.func24, Tryz.ntmps24
    go_wp2
    refine wp_loop_rounds 5 ?_
    have K0 : Blk ((w.alloc (.cells #[.int .i64 0, .int .i64 0, .int .i64 0, .bool false] 23)).alloc (.cells #[.int .i64 0, .int .i64 0, .int .i64 0, .bool false] 23)) (w.heap.size + 1) 23 #[.int .i64 0, .int .i64 0, .int .i64 0, .bool false] := Blk.newAt (by simp)
    have R0 : Blk ((w.alloc (.cells #[.int .i64 0, .int .i64 0, .int .i64 0, .bool false] 23)).alloc (.cells #[.int .i64 0, .int .i64 0, .int .i64 0, .bool false] 23)) w.heap.size 23 #[.int .i64 0, .int .i64 0, .int .i64 0, .bool false] := (Blk.newAt rfl).alloc
    have S0 : Below w.heap.size w ((w.alloc (.cells #[.int .i64 0, .int .i64 0, .int .i64 0, .bool false] 23)).alloc (.cells #[.int .i64 0, .int .i64 0, .int .i64 0, .bool false] 23)) := pa (pa pr)
    generalize (w.alloc (.cells #[.int .i64 0, .int .i64 0, .int .i64 0, .bool false] 23)).alloc (.cells #[.int .i64 0, .int .i64 0, .int .i64 0, .bool false] 23) = v0 at *
    have hne : w.heap.size ≠ w.heap.size + 1 := by omega
    have k0 := K0.cellAt 0 rfl
    have k1 := K0.cellAt 1 rfl
    have k2 := K0.cellAt 2 rfl
    have k3 := K0.cellAt 3 rfl
    have kf := K0.frozen 0
    have kl := K0.lt
    rw [rounds_succ]
    go_wp2
    refine region_below 11 follows_mixed (by kernel_rfl) ?_
    intro C hC
    simp only [List.take_succ_cons, List.take_zero, List.drop_succ_cons, List.drop_zero]
    repeat (first
      | ((with_reducible refine quiet_plain rfl (fun K hK => ?_)); (focus (apply quiet_val; (focus (intro w' hw; obtain ⟨hcq, hfq⟩ := bcell ((hC.out _).1 hw); go_simp; (first | done | rfl | (with_reducible exact call_same hw (HL.out _))))); (simp only [Act.put, List.setIfInBounds_toArray, List.set_cons_succ, List.set_cons_zero]); (with_reducible refine hK _ ?_); clear hK K)))
      | ((with_reducible refine quiet_skip ?_ ?_); (focus (first | (simp [Region.wanted, yielded]; done) | (simp [Region.wanted, yielded, undef]; done))); simp only [Act.put, List.setIfInBounds_toArray, List.set_cons_succ, List.set_cons_zero])
      | ((with_reducible refine quiet_go ?_ (fun K hK => ?_)); (focus (first | (simp [Region.wanted, yielded]; done) | (simp [Region.wanted, yielded, undef]; done))); (focus (apply quiet_val; (focus (intro w' hw; obtain ⟨hcq, hfq⟩ := bcell ((hC.out _).1 hw); go_simp; (first | done | rfl | (with_reducible exact call_same hw (HL.out _))))); (simp only [Act.put, List.setIfInBounds_toArray, List.set_cons_succ, List.set_cons_zero]); (with_reducible refine hK _ ?_); clear hK K))))
    refine wpQuiet_nil ?_
    intro w1 hb1
    replace hb1 := (hC.out _).1 hb1
    clear hC C
    obtain ⟨hc1, hf1⟩ := bcell hb1
    have Ka := K0.past hb1
    have Ra := R0.past hb1
    have Sa := pt S0 hb1
    clear hb1 hc1 hf1 k0 k1 k2 k3 kf kl K0 R0 S0
    obtain ⟨wa, rfl⟩ : ∃ v, v = w1 := ⟨_, rfl⟩
    have k0 := Ka.cellAt 0 rfl
    have k1 := Ka.cellAt 1 rfl
    have k2 := Ka.cellAt 2 rfl
    have k3 := Ka.cellAt 3 rfl
    have kf := Ka.frozen 0
    have kl := Ka.lt
    go_wp2
    have K1 : Blk (wa.setCell ⟨w.heap.size + 1, 0, none⟩ (.int .i64 1)) (w.heap.size + 1) 23 #[.int .i64 1, .int .i64 0, .int .i64 0, .bool false] := Ka.set_ 0 _
    have R1 : Blk (wa.setCell ⟨w.heap.size + 1, 0, none⟩ (.int .i64 1)) w.heap.size 23 #[.int .i64 0, .int .i64 0, .int .i64 0, .bool false] := Ra.far hne
    have S1 : Below w.heap.size w (wa.setCell ⟨w.heap.size + 1, 0, none⟩ (.int .i64 1)) := ps Sa (by simp)
    clear k0 k1 k2 k3 kf kl Ka Ra Sa
    generalize wa.setCell ⟨w.heap.size + 1, 0, none⟩ (.int .i64 1) = v1 at *
    have k0 := K1.cellAt 0 rfl
    have k1 := K1.cellAt 1 rfl
    have k2 := K1.cellAt 2 rfl
    have k3 := K1.cellAt 3 rfl
    have kf := K1.frozen 0
    have kl := K1.lt
    rw [rounds_succ]
    go_wp2
    refine region_below 11 follows_mixed (by kernel_rfl) ?_
    intro C hC
    simp only [List.take_succ_cons, List.take_zero, List.drop_succ_cons, List.drop_zero]
    repeat (first
      | ((with_reducible refine quiet_plain rfl (fun K hK => ?_)); (focus (apply quiet_val; (focus (intro w' hw; obtain ⟨hcq, hfq⟩ := bcell ((hC.out _).1 hw); go_simp; (first | done | rfl | (with_reducible exact call_same hw (HL.out _))))); (simp only [Act.put, List.setIfInBounds_toArray, List.set_cons_succ, List.set_cons_zero]); (with_reducible refine hK _ ?_); clear hK K)))
      | ((with_reducible refine quiet_skip ?_ ?_); (focus (first | (simp [Region.wanted, yielded]; done) | (simp [Region.wanted, yielded, undef]; done))); simp only [Act.put, List.setIfInBounds_toArray, List.set_cons_succ, List.set_cons_zero])
      | ((with_reducible refine quiet_go ?_ (fun K hK => ?_)); (focus (first | (simp [Region.wanted, yielded]; done) | (simp [Region.wanted, yielded, undef]; done))); (focus (apply quiet_val; (focus (intro w' hw; obtain ⟨hcq, hfq⟩ := bcell ((hC.out _).1 hw); go_simp; (first | done | rfl | (with_reducible exact call_same hw (HL.out _))))); (simp only [Act.put, List.setIfInBounds_toArray, List.set_cons_succ, List.set_cons_zero]); (with_reducible refine hK _ ?_); clear hK K))))
    refine wpQuiet_nil ?_
    intro w1 hb1
    replace hb1 := (hC.out _).1 hb1
    clear hC C
    obtain ⟨hc1, hf1⟩ := bcell hb1
    have Ka := K1.past hb1
    have Ra := R1.past hb1
    have Sa := pt S1 hb1
    clear hb1 hc1 hf1 k0 k1 k2 k3 kf kl K1 R1 S1
    obtain ⟨wa, rfl⟩ : ∃ v, v = w1 := ⟨_, rfl⟩
    have k0 := Ka.cellAt 0 rfl
    have k1 := Ka.cellAt 1 rfl
    have k2 := Ka.cellAt 2 rfl
    have k3 := Ka.cellAt 3 rfl
    have kf := Ka.frozen 0
    have kl := Ka.lt
    rw [hp] at HC
    have HX := Lib.hid (pn_full X hX o1 hx1)
    have HY := Lib.hid (pn_full Y hY o2 hx2)
    clear hx1 hx2 hX hY
    go_wp2_with (first | (go_at_call 23; (with_reducible refine (HC.out _).mono ?_); rintro e w2 ⟨A, cap, rfl, hcap, hcs, hB2⟩; obtain ⟨pb, po, rfl, p0, p1⟩ := cells2 hcs; have Kb := Ka.past hB2; have Rb := Ra.past hB2; have Sb := pt Sa hB2; clear k0 k1 k2 k3 kf kl Ka Ra Sa hB2; have k0 := Kb.cellAt 0 rfl; have k1 := Kb.cellAt 1 rfl; have k2 := Kb.cellAt 2 rfl; have k3 := Kb.cellAt 3 rfl; have kl := Kb.lt; have kf1 := Kb.frozen 1; have kf2 := Kb.frozen 2; have kf3 := Kb.frozen 3; have r0 := Rb.cellAt 0 rfl; have r1 := Rb.cellAt 1 rfl; have r2 := Rb.cellAt 2 rfl; have r3 := Rb.cellAt 3 rfl; have s0 := Rb.frozen 0; have s1 := Rb.frozen 1; have s2 := Rb.frozen 2; have s3 := Rb.frozen 3; have rl := Rb.lt) | (go_at_call 25; (with_reducible refine (HX.out _).mono ?_); rintro e w' ⟨⟨x1, rfl, hq1⟩, rfl⟩) | (go_at_call 25; (with_reducible refine (HY.out _).mono ?_); rintro e w' ⟨⟨x2, rfl, hq2⟩, rfl⟩))
    go_region
    have Kc : Blk ((((w2.setCell ⟨w.heap.size + 1, 2, none⟩ (.int .i64 x1)).setCell ⟨w.heap.size + 1, 1, none⟩ (.int .i64 x2)).setCell ⟨w.heap.size + 1, 3, none⟩ (.bool true)).drew) (w.heap.size + 1) 23 #[.int .i64 1, .int .i64 x2, .int .i64 x1, .bool true] := (((Kb.set_ 2 _).set_ 1 _).set_ 3 _).drew
    have Rc : Blk ((((w2.setCell ⟨w.heap.size + 1, 2, none⟩ (.int .i64 x1)).setCell ⟨w.heap.size + 1, 1, none⟩ (.int .i64 x2)).setCell ⟨w.heap.size + 1, 3, none⟩ (.bool true)).drew) w.heap.size 23 #[.int .i64 0, .int .i64 0, .int .i64 0, .bool false] := (((Rb.far hne).far hne).far hne).drew
    have Sc : Below w.heap.size w ((((w2.setCell ⟨w.heap.size + 1, 2, none⟩ (.int .i64 x1)).setCell ⟨w.heap.size + 1, 1, none⟩ (.int .i64 x2)).setCell ⟨w.heap.size + 1, 3, none⟩ (.bool true)).drew) := pd (ps (ps (ps Sb (by simp)) (by simp)) (by simp))
    clear k0 k1 k2 k3 kl kf1 kf2 kf3 r0 r1 r2 r3 s0 s1 s2 s3 rl Kb Rb Sb p0 p1 hcs hcap
    generalize ((((w2.setCell ⟨w.heap.size + 1, 2, none⟩ (.int .i64 x1)).setCell ⟨w.heap.size + 1, 1, none⟩ (.int .i64 x2)).setCell ⟨w.heap.size + 1, 3, none⟩ (.bool true)).drew) = w3 at *
    have k0 := Kc.cellAt 0 rfl
    have k1 := Kc.cellAt 1 rfl
    have k2 := Kc.cellAt 2 rfl
    have k3 := Kc.cellAt 3 rfl
    have kl := Kc.lt
    have r0 := Rc.cellAt 0 rfl
    have r1 := Rc.cellAt 1 rfl
    have r2 := Rc.cellAt 2 rfl
    have r3 := Rc.cellAt 3 rfl
    have s0 := Rc.frozen 0
    have s1 := Rc.frozen 1
    have s2 := Rc.frozen 2
    have s3 := Rc.frozen 3
    have rl := Rc.lt
    have hfin : ∀ Wf : World, Below w.heap.size w Wf → (∃ x1' x2' : Int, Ending.returned (.tuple #[.agg #[.int .i64 1, .int .i64 x2, .int .i64 x1, .bool true], .bool (o1 && o2)]) = .returned (.tuple #[.agg #[.int .i64 1, .int .i64 x2', .int .i64 x1', .bool true], .bool (o1 && o2)]) ∧ (∀ k, numP X = some k → x1' = k) ∧ (∀ k, numP Y = some k → x2' = k)) ∧ Below w.heap.size w Wf := fun _ q => ⟨⟨x1, x2, rfl, hq1, hq2⟩, q⟩
    have HF := Lib.hid hfin
    clear hfin hq1 hq2
    cases o1
    all_goals
      go_wp2
      exact bodyPost_ret (v := .tuple #[.agg #[.int .i64 1, .int .i64 x2, .int .i64 x1, .bool true], .bool (_ && o2)]) (by simp [results, Tryz.results24, go_sem, r0, r1, r2, r3, rl]) rfl (HF.out _ (by repeat (first | exact Sc | refine ps ?_ (by first | (simp; done) | (simp; omega)))))

set_option maxHeartbeats 4000000 in
set_option maxRecDepth 100000 in
theorem refpw_two2p (l : List UInt8) (hl : l.length ≤ 1000) (h2 : 2 ≤ l.length) (hj : byteL l 0 = 122) (hb : byteL l 1 = 43) (X Y : List UInt8) (hp : splitL 47 (l.drop 2) = [X, Y]) (hX : X.length ≤ 1000) (hY : Y.length ≤ 1000) (o1 o2 : Bool) (hx1 : (numP X).isSome = o1) (hx2 : (numP Y).isSome = o2) (w : World) :
    Calls Tryz.prog 24 #[.string ⟨l.toArray⟩] w fun e w' => (∃ x1 x2 : Int, e = .returned (.tuple #[.agg #[.int .i64 2, .int .i64 x2, .int .i64 x1, .bool false], .bool (o1 && o2)]) ∧ (∀ k, numP X = some k → x1 = k) ∧ (∀ k, numP Y = some k → x2 = k)) ∧ Below w.heap.size w w' := by
  have h2' : ¬ (l.length : Int) < 2 := by omega
  have hbs := bsize l
  have hix := fun W => index_lit l 1 (by omega) 1 rfl W
  have hi0 := fun W => index_lit l 0 (by omega) 0 rfl W
  have n0 : (121 != byteL l 0) = true := by simp; omega
  have n1 : (100 != byteL l 0) = true := by simp; omega
  have n2 : (122 != byteL l 0) = false := by simp; omega
  have u1 : IntKind.i64.wrap 1 = 1 := IntWalk.i64_in _ (by decide)
  have u2 : IntKind.i64.wrap 2 = 2 := IntWalk.i64_in _ (by decide)
  have u3 : IntKind.i64.wrap 3 = 3 := IntWalk.i64_in _ (by decide)
  have hx : (⟨l.toArray⟩ : ByteArray).extract 2 l.length = ⟨(l.drop 2).toArray⟩ := by rw [extract_list, List.take_of_length_le (by simp)]
  have hsz : (2 : Int) ≤ (l.length : Int) := by omega
  have HL := Lib.hid lettersS_any
  have HC := Lib.hid (show ∀ w, Calls Tryz.prog 23 #[.string ⟨(l.drop 2).toArray⟩, .int .u8 47] w fun e w' => ∃ A cap, e = .returned (.slice A (splitL 47 (l.drop 2)).length cap) ∧ (splitL 47 (l.drop 2)).length ≤ cap ∧ CellsIn w'.heap.size w' A ((splitL 47 (l.drop 2)).map strV) ∧ Below w.heap.size w w' from fun w => refCut_any (l.drop 2) (by rw [List.length_drop]; omega) 47 (by decide) w)
  generalize byteL l 0 = A0 at *
  generalize byteL l 1 = B0 at *
  clear h2 hl hj
  subst hb
  all_goals
    go_enter Tryz.func24, Tryz.ntmps24
    go_wp2
    refine wp_loop_rounds 5 ?_
    have K0 : Blk ((w.alloc (.cells #[.int .i64 0, .int .i64 0, .int .i64 0, .bool false] 23)).alloc (.cells #[.int .i64 0, .int .i64 0, .int .i64 0, .bool false] 23)) (w.heap.size + 1) 23 #[.int .i64 0, .int .i64 0, .int .i64 0, .bool false] := Blk.newAt (by simp)
    have R0 : Blk ((w.alloc (.cells #[.int .i64 0, .int .i64 0, .int .i64 0, .bool false] 23)).alloc (.cells #[.int .i64 0, .int .i64 0, .int .i64 0, .bool false] 23)) w.heap.size 23 #[.int .i64 0, .int .i64 0, .int .i64 0, .bool false] := (Blk.newAt rfl).alloc
    have S0 : Below w.heap.size w ((w.alloc (.cells #[.int .i64 0, .int .i64 0, .int .i64 0, .bool false] 23)).alloc (.cells #[.int .i64 0, .int .i64 0, .int .i64 0, .bool false] 23)) := pa (pa pr)
    generalize (w.alloc (.cells #[.int .i64 0, .int .i64 0, .int .i64 0, .bool false] 23)).alloc (.cells #[.int .i64 0, .int .i64 0, .int .i64 0, .bool false] 23) = v0 at *
    have hne : w.heap.size ≠ w.heap.size + 1 := by omega
    have k0 := K0.cellAt 0 rfl
    have k1 := K0.cellAt 1 rfl
    have k2 := K0.cellAt 2 rfl
    have k3 := K0.cellAt 3 rfl
    have kf := K0.frozen 0
    have kl := K0.lt
    rw [rounds_succ]
    go_wp2
    refine region_below 11 follows_mixed (by kernel_rfl) ?_
    intro C hC
    simp only [List.take_succ_cons, List.take_zero, List.drop_succ_cons, List.drop_zero]
    repeat (first
      | ((with_reducible refine quiet_plain rfl (fun K hK => ?_)); (focus (apply quiet_val; (focus (intro w' hw; obtain ⟨hcq, hfq⟩ := bcell ((hC.out _).1 hw); go_simp; (first | done | rfl | (with_reducible exact call_same hw (HL.out _))))); (simp only [Act.put, List.setIfInBounds_toArray, List.set_cons_succ, List.set_cons_zero]); (with_reducible refine hK _ ?_); clear hK K)))
      | ((with_reducible refine quiet_skip ?_ ?_); (focus (first | (simp [Region.wanted, yielded]; done) | (simp [Region.wanted, yielded, undef]; done))); simp only [Act.put, List.setIfInBounds_toArray, List.set_cons_succ, List.set_cons_zero])
      | ((with_reducible refine quiet_go ?_ (fun K hK => ?_)); (focus (first | (simp [Region.wanted, yielded]; done) | (simp [Region.wanted, yielded, undef]; done))); (focus (apply quiet_val; (focus (intro w' hw; obtain ⟨hcq, hfq⟩ := bcell ((hC.out _).1 hw); go_simp; (first | done | rfl | (with_reducible exact call_same hw (HL.out _))))); (simp only [Act.put, List.setIfInBounds_toArray, List.set_cons_succ, List.set_cons_zero]); (with_reducible refine hK _ ?_); clear hK K))))
    refine wpQuiet_nil ?_
    intro w1 hb1
    replace hb1 := (hC.out _).1 hb1
    clear hC C
    obtain ⟨hc1, hf1⟩ := bcell hb1
    have Ka := K0.past hb1
    have Ra := R0.past hb1
    have Sa := pt S0 hb1
    clear hb1 hc1 hf1 k0 k1 k2 k3 kf kl K0 R0 S0
    obtain ⟨wa, rfl⟩ : ∃ v, v = w1 := ⟨_, rfl⟩
    have k0 := Ka.cellAt 0 rfl
    have k1 := Ka.cellAt 1 rfl
    have k2 := Ka.cellAt 2 rfl
    have k3 := Ka.cellAt 3 rfl
    have kf := Ka.frozen 0
    have kl := Ka.lt
    go_wp2
    have K1 : Blk (wa.setCell ⟨w.heap.size + 1, 0, none⟩ (.int .i64 1)) (w.heap.size + 1) 23 #[.int .i64 1, .int .i64 0, .int .i64 0, .bool false] := Ka.set_ 0 _
    have R1 : Blk (wa.setCell ⟨w.heap.size + 1, 0, none⟩ (.int .i64 1)) w.heap.size 23 #[.int .i64 0, .int .i64 0, .int .i64 0, .bool false] := Ra.far hne
    have S1 : Below w.heap.size w (wa.setCell ⟨w.heap.size + 1, 0, none⟩ (.int .i64 1)) := ps Sa (by simp)
    clear k0 k1 k2 k3 kf kl Ka Ra Sa
    generalize wa.setCell ⟨w.heap.size + 1, 0, none⟩ (.int .i64 1) = v1 at *
    have k0 := K1.cellAt 0 rfl
    have k1 := K1.cellAt 1 rfl
    have k2 := K1.cellAt 2 rfl
    have k3 := K1.cellAt 3 rfl
    have kf := K1.frozen 0
    have kl := K1.lt
    rw [rounds_succ]
    go_wp2
    refine region_below 11 follows_mixed (by kernel_rfl) ?_
    intro C hC
    simp only [List.take_succ_cons, List.take_zero, List.drop_succ_cons, List.drop_zero]
    repeat (first
      | ((with_reducible refine quiet_plain rfl (fun K hK => ?_)); (focus (apply quiet_val; (focus (intro w' hw; obtain ⟨hcq, hfq⟩ := bcell ((hC.out _).1 hw); go_simp; (first | done | rfl | (with_reducible exact call_same hw (HL.out _))))); (simp only [Act.put, List.setIfInBounds_toArray, List.set_cons_succ, List.set_cons_zero]); (with_reducible refine hK _ ?_); clear hK K)))
      | ((with_reducible refine quiet_skip ?_ ?_); (focus (first | (simp [Region.wanted, yielded]; done) | (simp [Region.wanted, yielded, undef]; done))); simp only [Act.put, List.setIfInBounds_toArray, List.set_cons_succ, List.set_cons_zero])
      | ((with_reducible refine quiet_go ?_ (fun K hK => ?_)); (focus (first | (simp [Region.wanted, yielded]; done) | (simp [Region.wanted, yielded, undef]; done))); (focus (apply quiet_val; (focus (intro w' hw; obtain ⟨hcq, hfq⟩ := bcell ((hC.out _).1 hw); go_simp; (first | done | rfl | (with_reducible exact call_same hw (HL.out _))))); (simp only [Act.put, List.setIfInBounds_toArray, List.set_cons_succ, List.set_cons_zero]); (with_reducible refine hK _ ?_); clear hK K))))
    refine wpQuiet_nil ?_
    intro w1 hb1
    replace hb1 := (hC.out _).1 hb1
    clear hC C
    obtain ⟨hc1, hf1⟩ := bcell hb1
    have Ka := K1.past hb1
    have Ra := R1.past hb1
    have Sa := pt S1 hb1
    clear hb1 hc1 hf1 k0 k1 k2 k3 kf kl K1 R1 S1
    obtain ⟨wa, rfl⟩ : ∃ v, v = w1 := ⟨_, rfl⟩
    have k0 := Ka.cellAt 0 rfl
    have k1 := Ka.cellAt 1 rfl
    have k2 := Ka.cellAt 2 rfl
    have k3 := Ka.cellAt 3 rfl
    have kf := Ka.frozen 0
    have kl := Ka.lt
    go_wp2
    have K2 : Blk (wa.setCell ⟨w.heap.size + 1, 0, none⟩ (.int .i64 2)) (w.heap.size + 1) 23 #[.int .i64 2, .int .i64 0, .int .i64 0, .bool false] := Ka.set_ 0 _
    have R2 : Blk (wa.setCell ⟨w.heap.size + 1, 0, none⟩ (.int .i64 2)) w.heap.size 23 #[.int .i64 0, .int .i64 0, .int .i64 0, .bool false] := Ra.far hne
    have S2 : Below w.heap.size w (wa.setCell ⟨w.heap.size + 1, 0, none⟩ (.int .i64 2)) := ps Sa (by simp)
    clear k0 k1 k2 k3 kf kl Ka Ra Sa
    generalize wa.setCell ⟨w.heap.size + 1, 0, none⟩ (.int .i64 2) = v2 at *
    have k0 := K2.cellAt 0 rfl
    have k1 := K2.cellAt 1 rfl
    have k2 := K2.cellAt 2 rfl
    have k3 := K2.cellAt 3 rfl
    have kf := K2.frozen 0
    have kl := K2.lt
    rw [rounds_succ]
    go_wp2
    refine region_below 11 follows_mixed (by kernel_rfl) ?_
    intro C hC
    simp only [List.take_succ_cons, List.take_zero, List.drop_succ_cons, List.drop_zero]
    repeat (first
      | ((with_reducible refine quiet_plain rfl (fun K hK => ?_)); (focus (apply quiet_val; (focus (intro w' hw; obtain ⟨hcq, hfq⟩ := bcell ((hC.out _).1 hw); go_simp; (first | done | rfl | (with_reducible exact call_same hw (HL.out _))))); (simp only [Act.put, List.setIfInBounds_toArray, List.set_cons_succ, List.set_cons_zero]); (with_reducible refine hK _ ?_); clear hK K)))
      | ((with_reducible refine quiet_skip ?_ ?_); (focus (first | (simp [Region.wanted, yielded]; done) | (simp [Region.wanted, yielded, undef]; done))); simp only [Act.put, List.setIfInBounds_toArray, List.set_cons_succ, List.set_cons_zero])
      | ((with_reducible refine quiet_go ?_ (fun K hK => ?_)); (focus (first | (simp [Region.wanted, yielded]; done) | (simp [Region.wanted, yielded, undef]; done))); (focus (apply quiet_val; (focus (intro w' hw; obtain ⟨hcq, hfq⟩ := bcell ((hC.out _).1 hw); go_simp; (first | done | rfl | (with_reducible exact call_same hw (HL.out _))))); (simp only [Act.put, List.setIfInBounds_toArray, List.set_cons_succ, List.set_cons_zero]); (with_reducible refine hK _ ?_); clear hK K))))
    refine wpQuiet_nil ?_
    intro w1 hb1
    replace hb1 := (hC.out _).1 hb1
    clear hC C
    obtain ⟨hc1, hf1⟩ := bcell hb1
    have Ka := K2.past hb1
    have Ra := R2.past hb1
    have Sa := pt S2 hb1
    clear hb1 hc1 hf1 k0 k1 k2 k3 kf kl K2 R2 S2
    obtain ⟨wa, rfl⟩ : ∃ v, v = w1 := ⟨_, rfl⟩
    have k0 := Ka.cellAt 0 rfl
    have k1 := Ka.cellAt 1 rfl
    have k2 := Ka.cellAt 2 rfl
    have k3 := Ka.cellAt 3 rfl
    have kf := Ka.frozen 0
    have kl := Ka.lt
    rw [hp] at HC
    have HX := Lib.hid (pn_full X hX o1 hx1)
    have HY := Lib.hid (pn_full Y hY o2 hx2)
    clear hx1 hx2 hX hY
    go_wp2_with (first | (go_at_call 23; (with_reducible refine (HC.out _).mono ?_); rintro e w2 ⟨A, cap, rfl, hcap, hcs, hB2⟩; obtain ⟨pb, po, rfl, p0, p1⟩ := cells2 hcs; have Kb := Ka.past hB2; have Rb := Ra.past hB2; have Sb := pt Sa hB2; clear k0 k1 k2 k3 kf kl Ka Ra Sa hB2; have k0 := Kb.cellAt 0 rfl; have k1 := Kb.cellAt 1 rfl; have k2 := Kb.cellAt 2 rfl; have k3 := Kb.cellAt 3 rfl; have kl := Kb.lt; have kf1 := Kb.frozen 1; have kf2 := Kb.frozen 2; have kf3 := Kb.frozen 3; have r0 := Rb.cellAt 0 rfl; have r1 := Rb.cellAt 1 rfl; have r2 := Rb.cellAt 2 rfl; have r3 := Rb.cellAt 3 rfl; have s0 := Rb.frozen 0; have s1 := Rb.frozen 1; have s2 := Rb.frozen 2; have s3 := Rb.frozen 3; have rl := Rb.lt) | (go_at_call 25; (with_reducible refine (HX.out _).mono ?_); rintro e w' ⟨⟨x1, rfl, hq1⟩, rfl⟩) | (go_at_call 25; (with_reducible refine (HY.out _).mono ?_); rintro e w' ⟨⟨x2, rfl, hq2⟩, rfl⟩))
    go_region
    have Kc : Blk ((((w2.setCell ⟨w.heap.size + 1, 2, none⟩ (.int .i64 x1)).setCell ⟨w.heap.size + 1, 1, none⟩ (.int .i64 x2)).setCell ⟨w.heap.size + 1, 3, none⟩ (.bool false)).drew) (w.heap.size + 1) 23 #[.int .i64 2, .int .i64 x2, .int .i64 x1, .bool false] := (((Kb.set_ 2 _).set_ 1 _).set_ 3 _).drew
    have Rc : Blk ((((w2.setCell ⟨w.heap.size + 1, 2, none⟩ (.int .i64 x1)).setCell ⟨w.heap.size + 1, 1, none⟩ (.int .i64 x2)).setCell ⟨w.heap.size + 1, 3, none⟩ (.bool false)).drew) w.heap.size 23 #[.int .i64 0, .int .i64 0, .int .i64 0, .bool false] := (((Rb.far hne).far hne).far hne).drew
    have Sc : Below w.heap.size w ((((w2.setCell ⟨w.heap.size + 1, 2, none⟩ (.int .i64 x1)).setCell ⟨w.heap.size + 1, 1, none⟩ (.int .i64 x2)).setCell ⟨w.heap.size + 1, 3, none⟩ (.bool false)).drew) := pd (ps (ps (ps Sb (by simp)) (by simp)) (by simp))
    clear k0 k1 k2 k3 kl kf1 kf2 kf3 r0 r1 r2 r3 s0 s1 s2 s3 rl Kb Rb Sb p0 p1 hcs hcap
    generalize ((((w2.setCell ⟨w.heap.size + 1, 2, none⟩ (.int .i64 x1)).setCell ⟨w.heap.size + 1, 1, none⟩ (.int .i64 x2)).setCell ⟨w.heap.size + 1, 3, none⟩ (.bool false)).drew) = w3 at *
    have k0 := Kc.cellAt 0 rfl
    have k1 := Kc.cellAt 1 rfl
    have k2 := Kc.cellAt 2 rfl
    have k3 := Kc.cellAt 3 rfl
    have kl := Kc.lt
    have r0 := Rc.cellAt 0 rfl
    have r1 := Rc.cellAt 1 rfl
    have r2 := Rc.cellAt 2 rfl
    have r3 := Rc.cellAt 3 rfl
    have s0 := Rc.frozen 0
    have s1 := Rc.frozen 1
    have s2 := Rc.frozen 2
    have s3 := Rc.frozen 3
    have rl := Rc.lt
    have hfin : ∀ Wf : World, Below w.heap.size w Wf → (∃ x1' x2' : Int, Ending.returned (.tuple #[.agg #[.int .i64 2, .int .i64 x2, .int .i64 x1, .bool false], .bool (o1 && o2)]) = .returned (.tuple #[.agg #[.int .i64 2, .int .i64 x2', .int .i64 x1', .bool false], .bool (o1 && o2)]) ∧ (∀ k, numP X = some k → x1' = k) ∧ (∀ k, numP Y = some k → x2' = k)) ∧ Below w.heap.size w Wf := fun _ q => ⟨⟨x1, x2, rfl, hq1, hq2⟩, q⟩
    have HF := Lib.hid hfin
    clear hfin hq1 hq2
    cases o1
    all_goals
      go_wp2
      exact bodyPost_ret (v := .tuple #[.agg #[.int .i64 2, .int .i64 x2, .int .i64 x1, .bool false], .bool (_ && o2)]) (by simp [results, Tryz.results24, go_sem, r0, r1, r2, r3, rl]) rfl (HF.out _ (by repeat (first | exact Sc | refine ps ?_ (by first | (simp; done) | (simp; omega)))))

set_option maxHeartbeats 4000000 in
set_option maxRecDepth 100000 in
theorem refpw_two2m (l : List UInt8) (hl : l.length ≤ 1000) (h2 : 2 ≤ l.length) (hj : byteL l 0 = 122) (hb : byteL l 1 = 45) (X Y : List UInt8) (hp : splitL 47 (l.drop 2) = [X, Y]) (hX : X.length ≤ 1000) (hY : Y.length ≤ 1000) (o1 o2 : Bool) (hx1 : (numP X).isSome = o1) (hx2 : (numP Y).isSome = o2) (w : World) :
    Calls Tryz.prog 24 #[.string ⟨l.toArray⟩] w fun e w' => (∃ x1 x2 : Int, e = .returned (.tuple #[.agg #[.int .i64 2, .int .i64 x2, .int .i64 x1, .bool true], .bool (o1 && o2)]) ∧ (∀ k, numP X = some k → x1 = k) ∧ (∀ k, numP Y = some k → x2 = k)) ∧ Below w.heap.size w w' := by
  have h2' : ¬ (l.length : Int) < 2 := by omega
  have hbs := bsize l
  have hix := fun W => index_lit l 1 (by omega) 1 rfl W
  have hi0 := fun W => index_lit l 0 (by omega) 0 rfl W
  have n0 : (121 != byteL l 0) = true := by simp; omega
  have n1 : (100 != byteL l 0) = true := by simp; omega
  have n2 : (122 != byteL l 0) = false := by simp; omega
  have u1 : IntKind.i64.wrap 1 = 1 := IntWalk.i64_in _ (by decide)
  have u2 : IntKind.i64.wrap 2 = 2 := IntWalk.i64_in _ (by decide)
  have u3 : IntKind.i64.wrap 3 = 3 := IntWalk.i64_in _ (by decide)
  have hx : (⟨l.toArray⟩ : ByteArray).extract 2 l.length = ⟨(l.drop 2).toArray⟩ := by rw [extract_list, List.take_of_length_le (by simp)]
  have hsz : (2 : Int) ≤ (l.length : Int) := by omega
  have HL := Lib.hid lettersS_any
  have HC := Lib.hid (show ∀ w, Calls Tryz.prog 23 #[.string ⟨(l.drop 2).toArray⟩, .int .u8 47] w fun e w' => ∃ A cap, e = .returned (.slice A (splitL 47 (l.drop 2)).length cap) ∧ (splitL 47 (l.drop 2)).length ≤ cap ∧ CellsIn w'.heap.size w' A ((splitL 47 (l.drop 2)).map strV) ∧ Below w.heap.size w w' from fun w => refCut_any (l.drop 2) (by rw [List.length_drop]; omega) 47 (by decide) w)
  generalize byteL l 0 = A0 at *
  generalize byteL l 1 = B0 at *
  clear h2 hl hj
  subst hb
  all_goals
    go_enter Tryz.func24, Tryz.ntmps24
    go_wp2
    refine wp_loop_rounds 5 ?_
    have K0 : Blk ((w.alloc (.cells #[.int .i64 0, .int .i64 0, .int .i64 0, .bool false] 23)).alloc (.cells #[.int .i64 0, .int .i64 0, .int .i64 0, .bool false] 23)) (w.heap.size + 1) 23 #[.int .i64 0, .int .i64 0, .int .i64 0, .bool false] := Blk.newAt (by simp)
    have R0 : Blk ((w.alloc (.cells #[.int .i64 0, .int .i64 0, .int .i64 0, .bool false] 23)).alloc (.cells #[.int .i64 0, .int .i64 0, .int .i64 0, .bool false] 23)) w.heap.size 23 #[.int .i64 0, .int .i64 0, .int .i64 0, .bool false] := (Blk.newAt rfl).alloc
    have S0 : Below w.heap.size w ((w.alloc (.cells #[.int .i64 0, .int .i64 0, .int .i64 0, .bool false] 23)).alloc (.cells #[.int .i64 0, .int .i64 0, .int .i64 0, .bool false] 23)) := pa (pa pr)
    generalize (w.alloc (.cells #[.int .i64 0, .int .i64 0, .int .i64 0, .bool false] 23)).alloc (.cells #[.int .i64 0, .int .i64 0, .int .i64 0, .bool false] 23) = v0 at *
    have hne : w.heap.size ≠ w.heap.size + 1 := by omega
    have k0 := K0.cellAt 0 rfl
    have k1 := K0.cellAt 1 rfl
    have k2 := K0.cellAt 2 rfl
    have k3 := K0.cellAt 3 rfl
    have kf := K0.frozen 0
    have kl := K0.lt
    rw [rounds_succ]
    go_wp2
    refine region_below 11 follows_mixed (by kernel_rfl) ?_
    intro C hC
    simp only [List.take_succ_cons, List.take_zero, List.drop_succ_cons, List.drop_zero]
    repeat (first
      | ((with_reducible refine quiet_plain rfl (fun K hK => ?_)); (focus (apply quiet_val; (focus (intro w' hw; obtain ⟨hcq, hfq⟩ := bcell ((hC.out _).1 hw); go_simp; (first | done | rfl | (with_reducible exact call_same hw (HL.out _))))); (simp only [Act.put, List.setIfInBounds_toArray, List.set_cons_succ, List.set_cons_zero]); (with_reducible refine hK _ ?_); clear hK K)))
      | ((with_reducible refine quiet_skip ?_ ?_); (focus (first | (simp [Region.wanted, yielded]; done) | (simp [Region.wanted, yielded, undef]; done))); simp only [Act.put, List.setIfInBounds_toArray, List.set_cons_succ, List.set_cons_zero])
      | ((with_reducible refine quiet_go ?_ (fun K hK => ?_)); (focus (first | (simp [Region.wanted, yielded]; done) | (simp [Region.wanted, yielded, undef]; done))); (focus (apply quiet_val; (focus (intro w' hw; obtain ⟨hcq, hfq⟩ := bcell ((hC.out _).1 hw); go_simp; (first | done | rfl | (with_reducible exact call_same hw (HL.out _))))); (simp only [Act.put, List.setIfInBounds_toArray, List.set_cons_succ, List.set_cons_zero]); (with_reducible refine hK _ ?_); clear hK K))))
    refine wpQuiet_nil ?_
    intro w1 hb1
    replace hb1 := (hC.out _).1 hb1
    clear hC C
    obtain ⟨hc1, hf1⟩ := bcell hb1
    have Ka := K0.past hb1
    have Ra := R0.past hb1
    have Sa := pt S0 hb1
    clear hb1 hc1 hf1 k0 k1 k2 k3 kf kl K0 R0 S0
    obtain ⟨wa, rfl⟩ : ∃ v, v = w1 := ⟨_, rfl⟩
    have k0 := Ka.cellAt 0 rfl
    have k1 := Ka.cellAt 1 rfl
    have k2 := Ka.cellAt 2 rfl
    have k3 := Ka.cellAt 3 rfl
    have kf := Ka.frozen 0
    have kl := Ka.lt
    go_wp2
    have K1 : Blk (wa.setCell ⟨w.heap.size + 1, 0, none⟩ (.int .i64 1)) (w.heap.size + 1) 23 #[.int .i64 1, .int .i64 0, .int .i64 0, .bool false] := Ka.set_ 0 _
    have R1 : Blk (wa.setCell ⟨w.heap.size + 1, 0, none⟩ (.int .i64 1)) w.heap.size 23 #[.int .i64 0, .int .i64 0, .int .i64 0, .bool false] := Ra.far hne
    have S1 : Below w.heap.size w (wa.setCell ⟨w.heap.size + 1, 0, none⟩ (.int .i64 1)) := ps Sa (by simp)
    clear k0 k1 k2 k3 kf kl Ka Ra Sa
    generalize wa.setCell ⟨w.heap.size + 1, 0, none⟩ (.int .i64 1) = v1 at *
    have k0 := K1.cellAt 0 rfl
    have k1 := K1.cellAt 1 rfl
    have k2 := K1.cellAt 2 rfl
    have k3 := K1.cellAt 3 rfl
    have kf := K1.frozen 0
    have kl := K1.lt
    rw [rounds_succ]
    go_wp2
    refine region_below 11 follows_mixed (by kernel_rfl) ?_
    intro C hC
    simp only [List.take_succ_cons, List.take_zero, List.drop_succ_cons, List.drop_zero]
    repeat (first
      | ((with_reducible refine quiet_plain rfl (fun K hK => ?_)); (focus (apply quiet_val; (focus (intro w' hw; obtain ⟨hcq, hfq⟩ := bcell ((hC.out _).1 hw); go_simp; (first | done | rfl | (with_reducible exact call_same hw (HL.out _))))); (simp only [Act.put, List.setIfInBounds_toArray, List.set_cons_succ, List.set_cons_zero]); (with_reducible refine hK _ ?_); clear hK K)))
      | ((with_reducible refine quiet_skip ?_ ?_); (focus (first | (simp [Region.wanted, yielded]; done) | (simp [Region.wanted, yielded, undef]; done))); simp only [Act.put, List.setIfInBounds_toArray, List.set_cons_succ, List.set_cons_zero])
      | ((with_reducible refine quiet_go ?_ (fun K hK => ?_)); (focus (first | (simp [Region.wanted, yielded]; done) | (simp [Region.wanted, yielded, undef]; done))); (focus (apply quiet_val; (focus (intro w' hw; obtain ⟨hcq, hfq⟩ := bcell ((hC.out _).1 hw); go_simp; (first | done | rfl | (with_reducible exact call_same hw (HL.out _))))); (simp only [Act.put, List.setIfInBounds_toArray, List.set_cons_succ, List.set_cons_zero]); (with_reducible refine hK _ ?_); clear hK K))))
    refine wpQuiet_nil ?_
    intro w1 hb1
    replace hb1 := (hC.out _).1 hb1
    clear hC C
    obtain ⟨hc1, hf1⟩ := bcell hb1
    have Ka := K1.past hb1
    have Ra := R1.past hb1
    have Sa := pt S1 hb1
    clear hb1 hc1 hf1 k0 k1 k2 k3 kf kl K1 R1 S1
    obtain ⟨wa, rfl⟩ : ∃ v, v = w1 := ⟨_, rfl⟩
    have k0 := Ka.cellAt 0 rfl
    have k1 := Ka.cellAt 1 rfl
    have k2 := Ka.cellAt 2 rfl
    have k3 := Ka.cellAt 3 rfl
    have kf := Ka.frozen 0
    have kl := Ka.lt
    go_wp2
    have K2 : Blk (wa.setCell ⟨w.heap.size + 1, 0, none⟩ (.int .i64 2)) (w.heap.size + 1) 23 #[.int .i64 2, .int .i64 0, .int .i64 0, .bool false] := Ka.set_ 0 _
    have R2 : Blk (wa.setCell ⟨w.heap.size + 1, 0, none⟩ (.int .i64 2)) w.heap.size 23 #[.int .i64 0, .int .i64 0, .int .i64 0, .bool false] := Ra.far hne
    have S2 : Below w.heap.size w (wa.setCell ⟨w.heap.size + 1, 0, none⟩ (.int .i64 2)) := ps Sa (by simp)
    clear k0 k1 k2 k3 kf kl Ka Ra Sa
    generalize wa.setCell ⟨w.heap.size + 1, 0, none⟩ (.int .i64 2) = v2 at *
    have k0 := K2.cellAt 0 rfl
    have k1 := K2.cellAt 1 rfl
    have k2 := K2.cellAt 2 rfl
    have k3 := K2.cellAt 3 rfl
    have kf := K2.frozen 0
    have kl := K2.lt
    rw [rounds_succ]
    go_wp2
    refine region_below 11 follows_mixed (by kernel_rfl) ?_
    intro C hC
    simp only [List.take_succ_cons, List.take_zero, List.drop_succ_cons, List.drop_zero]
    repeat (first
      | ((with_reducible refine quiet_plain rfl (fun K hK => ?_)); (focus (apply quiet_val; (focus (intro w' hw; obtain ⟨hcq, hfq⟩ := bcell ((hC.out _).1 hw); go_simp; (first | done | rfl | (with_reducible exact call_same hw (HL.out _))))); (simp only [Act.put, List.setIfInBounds_toArray, List.set_cons_succ, List.set_cons_zero]); (with_reducible refine hK _ ?_); clear hK K)))
      | ((with_reducible refine quiet_skip ?_ ?_); (focus (first | (simp [Region.wanted, yielded]; done) | (simp [Region.wanted, yielded, undef]; done))); simp only [Act.put, List.setIfInBounds_toArray, List.set_cons_succ, List.set_cons_zero])
      | ((with_reducible refine quiet_go ?_ (fun K hK => ?_)); (focus (first | (simp [Region.wanted, yielded]; done) | (simp [Region.wanted, yielded, undef]; done))); (focus (apply quiet_val; (focus (intro w' hw; obtain ⟨hcq, hfq⟩ := bcell ((hC.out _).1 hw); go_simp; (first | done | rfl | (with_reducible exact call_same hw (HL.out _))))); (simp only [Act.put, List.setIfInBounds_toArray, List.set_cons_succ, List.set_cons_zero]); (with_reducible refine hK _ ?_); clear hK K))))
    refine wpQuiet_nil ?_
    intro w1 hb1
    replace hb1 := (hC.out _).1 hb1
    clear hC C
    obtain ⟨hc1, hf1⟩ := bcell hb1
    have Ka := K2.past hb1
    have Ra := R2.past hb1
    have Sa := pt S2 hb1
    clear hb1 hc1 hf1 k0 k1 k2 k3 kf kl K2 R2 S2
    obtain ⟨wa, rfl⟩ : ∃ v, v = w1 := ⟨_, rfl⟩
    have k0 := Ka.cellAt 0 rfl
    have k1 := Ka.cellAt 1 rfl
    have k2 := Ka.cellAt 2 rfl
    have k3 := Ka.cellAt 3 rfl
    have kf := Ka.frozen 0
    have kl := Ka.lt
    rw [hp] at HC
    have HX := Lib.hid (pn_full X hX o1 hx1)
    have HY := Lib.hid (pn_full Y hY o2 hx2)
    clear hx1 hx2 hX hY
    go_wp2_with (first | (go_at_call 23; (with_reducible refine (HC.out _).mono ?_); rintro e w2 ⟨A, cap, rfl, hcap, hcs, hB2⟩; obtain ⟨pb, po, rfl, p0, p1⟩ := cells2 hcs; have Kb := Ka.past hB2; have Rb := Ra.past hB2; have Sb := pt Sa hB2; clear k0 k1 k2 k3 kf kl Ka Ra Sa hB2; have k0 := Kb.cellAt 0 rfl; have k1 := Kb.cellAt 1 rfl; have k2 := Kb.cellAt 2 rfl; have k3 := Kb.cellAt 3 rfl; have kl := Kb.lt; have kf1 := Kb.frozen 1; have kf2 := Kb.frozen 2; have kf3 := Kb.frozen 3; have r0 := Rb.cellAt 0 rfl; have r1 := Rb.cellAt 1 rfl; have r2 := Rb.cellAt 2 rfl; have r3 := Rb.cellAt 3 rfl; have s0 := Rb.frozen 0; have s1 := Rb.frozen 1; have s2 := Rb.frozen 2; have s3 := Rb.frozen 3; have rl := Rb.lt) | (go_at_call 25; (with_reducible refine (HX.out _).mono ?_); rintro e w' ⟨⟨x1, rfl, hq1⟩, rfl⟩) | (go_at_call 25; (with_reducible refine (HY.out _).mono ?_); rintro e w' ⟨⟨x2, rfl, hq2⟩, rfl⟩))
    go_region
    have Kc : Blk ((((w2.setCell ⟨w.heap.size + 1, 2, none⟩ (.int .i64 x1)).setCell ⟨w.heap.size + 1, 1, none⟩ (.int .i64 x2)).setCell ⟨w.heap.size + 1, 3, none⟩ (.bool true)).drew) (w.heap.size + 1) 23 #[.int .i64 2, .int .i64 x2, .int .i64 x1, .bool true] := (((Kb.set_ 2 _).set_ 1 _).set_ 3 _).drew
    have Rc : Blk ((((w2.setCell ⟨w.heap.size + 1, 2, none⟩ (.int .i64 x1)).setCell ⟨w.heap.size + 1, 1, none⟩ (.int .i64 x2)).setCell ⟨w.heap.size + 1, 3, none⟩ (.bool true)).drew) w.heap.size 23 #[.int .i64 0, .int .i64 0, .int .i64 0, .bool false] := (((Rb.far hne).far hne).far hne).drew
    have Sc : Below w.heap.size w ((((w2.setCell ⟨w.heap.size + 1, 2, none⟩ (.int .i64 x1)).setCell ⟨w.heap.size + 1, 1, none⟩ (.int .i64 x2)).setCell ⟨w.heap.size + 1, 3, none⟩ (.bool true)).drew) := pd (ps (ps (ps Sb (by simp)) (by simp)) (by simp))
    clear k0 k1 k2 k3 kl kf1 kf2 kf3 r0 r1 r2 r3 s0 s1 s2 s3 rl Kb Rb Sb p0 p1 hcs hcap
    generalize ((((w2.setCell ⟨w.heap.size + 1, 2, none⟩ (.int .i64 x1)).setCell ⟨w.heap.size + 1, 1, none⟩ (.int .i64 x2)).setCell ⟨w.heap.size + 1, 3, none⟩ (.bool true)).drew) = w3 at *
    have k0 := Kc.cellAt 0 rfl
    have k1 := Kc.cellAt 1 rfl
    have k2 := Kc.cellAt 2 rfl
    have k3 := Kc.cellAt 3 rfl
    have kl := Kc.lt
    have r0 := Rc.cellAt 0 rfl
    have r1 := Rc.cellAt 1 rfl
    have r2 := Rc.cellAt 2 rfl
    have r3 := Rc.cellAt 3 rfl
    have s0 := Rc.frozen 0
    have s1 := Rc.frozen 1
    have s2 := Rc.frozen 2
    have s3 := Rc.frozen 3
    have rl := Rc.lt
    have hfin : ∀ Wf : World, Below w.heap.size w Wf → (∃ x1' x2' : Int, Ending.returned (.tuple #[.agg #[.int .i64 2, .int .i64 x2, .int .i64 x1, .bool true], .bool (o1 && o2)]) = .returned (.tuple #[.agg #[.int .i64 2, .int .i64 x2', .int .i64 x1', .bool true], .bool (o1 && o2)]) ∧ (∀ k, numP X = some k → x1' = k) ∧ (∀ k, numP Y = some k → x2' = k)) ∧ Below w.heap.size w Wf := fun _ q => ⟨⟨x1, x2, rfl, hq1, hq2⟩, q⟩
    have HF := Lib.hid hfin
    clear hfin hq1 hq2
    cases o1
    all_goals
      go_wp2
      exact bodyPost_ret (v := .tuple #[.agg #[.int .i64 2, .int .i64 x2, .int .i64 x1, .bool true], .bool (_ && o2)]) (by simp [results, Tryz.results24, go_sem, r0, r1, r2, r3, rl]) rfl (HF.out _ (by repeat (first | exact Sc | refine ps ?_ (by first | (simp; done) | (simp; omega)))))

end Go.Proofs.YtccpkheiokjcdaaGreatDoor
