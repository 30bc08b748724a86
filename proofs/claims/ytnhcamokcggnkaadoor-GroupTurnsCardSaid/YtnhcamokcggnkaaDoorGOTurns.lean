/- Contracts of turns: their order; the specification's composition, inverse, order. -/
import Derived.Test.YtnhcamokcggnkaaDoorGNTurns
import Derived.RegionTactic
import Derived.ChangeAlike
namespace Go.Proofs.YtnhcamokcggnkaaDoor
open Go.RowKit
attribute [local go_sem ↓] Go.wp_at_zero Go.wp_at_succ
attribute [local go_sem ↓ high] tn_eql tn_neq

/-- From b the turn that is nothing is reached within f compositions. -/
def reachB (a : Turn) : Nat → Turn → Bool
  | 0, b => b == ⟨0, false⟩
  | f + 1, b => b == ⟨0, false⟩ || reachB a f (compV b a)
theorem reach_table : ∀ i : Fin 12, ∀ r : Bool, reachB ⟨(i.val : Int), r⟩ 12 ⟨(i.val : Int), r⟩ = true := by decide +kernel
theorem reach_all {h : Int} (m : Bool) (hh : 0 ≤ h ∧ h ≤ 11) : reachB ⟨h, m⟩ 12 ⟨h, m⟩ = true := by
  have k := reach_table ⟨h.toNat, by omega⟩ m
  simp only [Int.toNat_of_nonneg hh.1] at k
  exact k
theorem reach_step {a b : Turn} {f : Nat} {n : Int} (hr : reachB a f b = true) (h0 : tnB b.hours b.mir 0 false = false) : ∃ g, f = g + 1 ∧ reachB a g (compV b a) = true ∧ ordF a f b n = ordF a g (compV b a) (n + 1) := by
  have hne : b ≠ ⟨0, false⟩ := fun e => by subst e; cases h0
  cases f with
  | zero => simp [reachB, hne] at hr
  | succ g =>
    refine ⟨g, rfl, by simpa [reachB, hne] using hr, ?_⟩
    simp [ordF, hne]
theorem ord_end {a b : Turn} {f : Nat} {n : Int} (h0 : tnB b.hours b.mir 0 false = true) : ordF a f b n = n := by
  obtain ⟨e1, e2⟩ := tnB_iff.1 h0
  have e : b = ⟨0, false⟩ := by cases b; simp at e1 e2; simp [e1, e2]
  subst e
  cases f <;> simp [ordF]

theorem OrderOf_err (h : Int) (m : Bool) (he : turnE h ≠ 0) (w : World) :
    Calls Tryd.prog 35 #[.agg #[.int .i64 h, .bool m]] w fun e w' => e = .returned (.tuple #[.int .i64 0, .int .i64 (turnE h)]) ∧ Below w.heap.size w w' := by
  have HC := Lib.hid (turnErr_any h m)
  have hne : (turnE h == 0) = false := by simpa using he
  generalize turnE h = E at *
  clear he
  go_enter Tryd.func35, Tryd.ntmps35
  go_wp2_with (go_at_call 72; refine (HC.out _).mono ?_; rintro e w2 ⟨rfl, hb2⟩)
  go_ret2
  exact ⟨rfl, pt (pa pr) hb2⟩

set_option maxHeartbeats 4000000 in
set_option maxRecDepth 100000 in
theorem OrderOf_ok (h : Int) (m : Bool) (h1 : turnE h = 0) (w : World) :
    Calls Tryd.prog 35 #[.agg #[.int .i64 h, .bool m]] w fun e w' => e = .returned (.tuple #[.int .i64 (ordV ⟨h, m⟩), .int .i64 0]) ∧ Below w.heap.size w w' := by
  have HC := Lib.hid (turnErr_any h m)
  have hh := turnE_ok h1
  rw [h1] at HC
  have HR := Lib.hid (reach_all m hh)
  have HX := Lib.hid (fun (k : Int) (n : Bool) (hk : 0 ≤ k ∧ k ≤ 11) => composed_any k n h m hk hh)
  have HO := Lib.hid (show ordV ⟨h, m⟩ = ordF ⟨h, m⟩ 12 ⟨h, m⟩ 1 from rfl)
  generalize ordV ⟨h, m⟩ = O at *
  clear h1
  go_enter Tryd.func35, Tryd.ntmps35
  go_wp2_with (go_at_call 72; refine (HC.out _).mono ?_; rintro e w2 ⟨rfl, hb2⟩; have P2 : Blk w2 w.heap.size 63 #[.int .i64 h, .bool m] := (Blk.newAt rfl).past hb2; have S2 := pt (pa pr) hb2; have p0 := P2.cellAt 0 rfl; have p1 := P2.cellAt 1 rfl; have pl := P2.lt)
  go_loopw [5, 6] (fun n p wr => ∃ (f : Nat) (k : Int) (q : Bool) (b : Nat), f ≤ 12 ∧ n = .int .i64 (13 - (f : Int)) ∧ p = .pointer (some ⟨b, 0, none⟩) ∧ (0 ≤ k ∧ k ≤ 11) ∧ reachB ⟨h, m⟩ f ⟨k, q⟩ = true ∧ O = ordF ⟨h, m⟩ f ⟨k, q⟩ (13 - (f : Int)) ∧ w.heap.size < b ∧ Blk wr b 63 #[.int .i64 k, .bool q] ∧ Blk wr w.heap.size 63 #[.int .i64 h, .bool m] ∧ Below w.heap.size w wr) (fun n _ _ => (13 - intOf n).toNat)
  case atStart => exact ⟨12, h, m, w2.heap.size, by omega, rfl, rfl, hh, HR.out, HO.out, by have := P2.lt; omega, Blk.new _ _ _, P2.alloc, pa S2⟩
  case round =>
    obtain ⟨f, k, q, b, hf, rfl, rfl, hk, hr, ho, hlt, Q, P, S⟩ := hrel
    clear P2 S2 p0 p1 pl hb2
    have q0 := Q.cellAt 0 rfl
    have q1 := Q.cellAt 1 rfl
    have f0 := Q.frozen 0
    have f1 := Q.frozen 1
    have ql := Q.lt
    have p0 := P.cellAt 0 rfl
    have p1 := P.cellAt 1 rfl
    have pl := P.lt
    cases hz : tnB k q 0 false
    · obtain ⟨g, rfl, hr2, ho2⟩ := reach_step (n := 13 - (f : Int)) hr hz
      have HR2 := Lib.hid hr2
      have HO2 := Lib.hid (ho.trans ho2)
      have hc := compV_ok ⟨k, q⟩ ⟨h, m⟩
      have HK := Lib.hid (HX.out k q hk)
      have HT := Lib.hid hc
      clear hr ho hr2 ho2 hc
      generalize hcc : compV ⟨k, q⟩ ⟨h, m⟩ = c at *
      have HCC := Lib.hid hcc
      clear hcc
      go_wp2_with (go_at_call 73; refine (HK.out _).mono ?_; rintro e w3 ⟨rfl, hb3⟩; have Q3 := Q.past hb3; have P3 := P.past hb3; have S3 := pt S hb3; clear q0 q1 f0 f1 ql p0 p1 pl; have q0 := Q3.cellAt 0 rfl; have q1 := Q3.cellAt 1 rfl; have f0 := Q3.frozen 0; have f1 := Q3.frozen 1; have ql := Q3.lt)
      go_roundw
      case rel =>
        refine ⟨g, c.hours, c.mir, _, by omega, ?_, rfl, HT.out, HR2.out, ?_, ?_, Blk.newAt (by simp), ?_, ?_⟩
        · congr 1; push_cast; omega
        · rw [HO2.out]; congr 1; push_cast; omega
        · have := P3.lt; simp; omega
        · exact ((P3.far (by simp; omega)).far (by simp; omega)).alloc
        · exact pa (ps (ps S3 (by simp; omega)) (by simp; omega))
      case measure => simp [intOf]; omega
    · have HO2 := Lib.hid (ho.trans (ord_end (a := ⟨h, m⟩) (b := ⟨k, q⟩) hz))
      clear hr ho
      obtain ⟨e1, e2⟩ := tnB_iff.1 hz
      go_wp2
      go_ret2
      exact ⟨ret_ii HO2.out.symm rfl, S⟩

set_option maxHeartbeats 4000000 in
set_option maxRecDepth 100000 in
theorem refComposed_any (h : Int) (m : Bool) (k : Int) (n : Bool) (hh : 0 ≤ h ∧ h ≤ 11) (hk : 0 ≤ k ∧ k ≤ 11) (w : World) :
    Calls Tryd.prog 37 #[.agg #[.int .i64 h, .bool m], .agg #[.int .i64 k, .bool n]] w fun e w' => e = .returned (.agg #[.int .i64 (compV ⟨h, m⟩ ⟨k, n⟩).hours, .bool (compV ⟨h, m⟩ ⟨k, n⟩).mir]) ∧ Below w.heap.size w w' := by
  have hc := comp_ref ⟨h, m⟩ ⟨k, n⟩ hh
  rw [← hc]
  clear hc
  have r1 := appV_range ⟨h, m⟩ 0
  have r2 := appV_range ⟨h, m⟩ 1
  have M1 := Lib.hid (made_any h m 0 hh (by decide))
  have M2 := Lib.hid (made_any h m 1 hh (by decide))
  have M3 := Lib.hid (made_any k n (appV ⟨h, m⟩ 0) hk r1)
  have M4 := Lib.hid (made_any k n (appV ⟨h, m⟩ 1) hk r2)
  have r3 := appV_range ⟨k, n⟩ (appV ⟨h, m⟩ 0)
  have r4 := appV_range ⟨k, n⟩ (appV ⟨h, m⟩ 1)
  generalize appV ⟨k, n⟩ (appV ⟨h, m⟩ 0) = z at *
  generalize appV ⟨k, n⟩ (appV ⟨h, m⟩ 1) = o at *
  generalize appV ⟨h, m⟩ 0 = x at *
  generalize appV ⟨h, m⟩ 1 = y at *
  have HM := Lib.hid (refMod12_any (o - z) (by unfold Sm; omega))
  have hb : ∃ b : Bool, decide ((o - z) % 12 ≠ 1) = b ∧ ((o - z) % 12 != 1) = b ∧ ((o - z) % 12 == 1) = !b := by
    by_cases e : (o - z) % 12 = 1
    · exact ⟨false, by simp [e], by simp [e], by simp [e]⟩
    · exact ⟨true, by simp [e], by simp [e], by simp [e]⟩
  obtain ⟨b, hb0, hb1', hb2'⟩ := hb
  rw [hb0]
  clear hb0
  go_enter Tryd.func37, Tryd.ntmps37
  go_wp2
  refine region_below 8 follows_mixed (by kernel_rfl) ?_
  intro C hC
  simp only [List.take_succ_cons, List.take_zero, List.drop_succ_cons, List.drop_zero]
  repeat (first
    | ((with_reducible refine quiet_plain rfl (fun K hK => ?_)); (focus (apply quiet_val; (focus (intro w' hw; obtain ⟨hcq, hfq⟩ := bcell ((hC.out _).1 hw); go_simp; (first | done | rfl | (with_reducible exact call_below hC hw (M1.out _)) | (with_reducible exact call_below hC hw (M2.out _)) | (with_reducible exact call_below hC hw (M3.out _)) | (with_reducible exact call_below hC hw (M4.out _))))); (simp only [Act.put, List.setIfInBounds_toArray, List.set_cons_succ, List.set_cons_zero]); (with_reducible refine hK _ ?_); clear hK K)))
    | ((with_reducible refine quiet_skip ?_ ?_); (focus (simp [Region.wanted, yielded]; done)); simp only [Act.put, List.setIfInBounds_toArray, List.set_cons_succ, List.set_cons_zero])
    | ((with_reducible refine quiet_go ?_ (fun K hK => ?_)); (focus (simp [Region.wanted, yielded]; done)); (focus (apply quiet_val; (focus (intro w' hw; obtain ⟨hcq, hfq⟩ := bcell ((hC.out _).1 hw); go_simp; (first | done | rfl | (with_reducible exact call_below hC hw (M1.out _)) | (with_reducible exact call_below hC hw (M2.out _)) | (with_reducible exact call_below hC hw (M3.out _)) | (with_reducible exact call_below hC hw (M4.out _))))); (simp only [Act.put, List.setIfInBounds_toArray, List.set_cons_succ, List.set_cons_zero]); (with_reducible refine hK _ ?_); clear hK K))))
  refine wpQuiet_nil ?_
  intro w1 hb1
  replace hb1 := (hC.out _).1 hb1
  clear hC C
  obtain ⟨hc1, hf1⟩ := bcell hb1
  have R1 : Blk w1 (w.heap.size + 1 + 1) 63 #[.int .i64 0, .bool false] := (Blk.newAt (by simp)).past hb1
  have S1 := pt (pa (pa (pa pr))) hb1
  clear hb1 hc1 hf1
  have q0 := R1.cellAt 0 rfl
  have q1 := R1.cellAt 1 rfl
  have s0 := R1.frozen 0
  have s1 := R1.frozen 1
  have rl := R1.lt
  cases b
  all_goals
    go_wp2_with (go_at_call 29; refine (HM.out _).mono ?_; rintro e w' ⟨rfl, rfl⟩)
    exact bodyPost_ret (v := .agg #[.int .i64 z, .bool _]) (by simp [results, Tryd.results37, go_sem, q0, q1, s0, s1, rl]; try rfl) rfl ⟨rfl, by repeat (first | exact S1 | refine ps ?_ (by first | (simp; done) | (simp; omega)))⟩

set_option maxHeartbeats 2000000 in
theorem refInverse_any (h : Int) (m : Bool) (hh : 0 ≤ h ∧ h ≤ 11) (w : World) :
    Calls Tryd.prog 38 #[.agg #[.int .i64 h, .bool m]] w fun e w' => e = .returned (.agg #[.int .i64 (invV ⟨h, m⟩).hours, .bool (invV ⟨h, m⟩).mir]) ∧ Below w.heap.size w w' := by
  have HM := Lib.hid (refMod12_any (-h) (by unfold Sm; omega))
  cases m
  all_goals
    go_enter Tryd.func38, Tryd.ntmps38
    go_wp2_with (go_at_call 29; refine (HM.out _).mono ?_; rintro e w' ⟨rfl, rfl⟩)
    exact bodyPost_ret (v := .agg #[.int .i64 (invV ⟨h, _⟩).hours, .bool (invV ⟨h, _⟩).mir]) (by simp [results, Tryd.results38, go_sem, invV]) rfl ⟨rfl, by repeat (first | exact pr | refine pa ?_ | refine ps ?_ (by first | (simp; done) | (simp; omega)))⟩

set_option maxHeartbeats 4000000 in
set_option maxRecDepth 100000 in
theorem refOrder_any (h : Int) (m : Bool) (hh : 0 ≤ h ∧ h ≤ 11) (w : World) :
    Calls Tryd.prog 39 #[.agg #[.int .i64 h, .bool m]] w fun e w' => e = .returned (.int .i64 (ordV ⟨h, m⟩)) ∧ Below w.heap.size w w' := by
  have HR := Lib.hid (reach_all m hh)
  have HX := Lib.hid (fun (k : Int) (n : Bool) (hk : 0 ≤ k ∧ k ≤ 11) => refComposed_any k n h m hk hh)
  have HO := Lib.hid (show ordV ⟨h, m⟩ = ordF ⟨h, m⟩ 12 ⟨h, m⟩ 1 from rfl)
  generalize ordV ⟨h, m⟩ = O at *
  go_enter Tryd.func39, Tryd.ntmps39
  go_wp2
  go_region
  go_wp2
  go_loopw [3] (fun n wr => ∃ (f : Nat) (k : Int) (q : Bool), f ≤ 12 ∧ n = .int .i64 (13 - (f : Int)) ∧ (0 ≤ k ∧ k ≤ 11) ∧ reachB ⟨h, m⟩ f ⟨k, q⟩ = true ∧ O = ordF ⟨h, m⟩ f ⟨k, q⟩ (13 - (f : Int)) ∧ Blk wr (w.heap.size + 1) 63 #[.int .i64 k, .bool q] ∧ Blk wr w.heap.size 63 #[.int .i64 h, .bool m] ∧ Below w.heap.size w wr) (fun n _ => (13 - intOf n).toNat)
  case atStart => exact ⟨12, h, m, by omega, rfl, hh, HR.out, HO.out, Blk.drew (Blk.newAt (by simp)), Blk.drew (Blk.alloc (Blk.newAt rfl)), pd (pa (pa pr))⟩
  case round =>
    obtain ⟨f, k, q, hf, rfl, hk, hr, ho, Q, P, S⟩ := hrel
    have q0 := Q.cellAt 0 rfl
    have q1 := Q.cellAt 1 rfl
    have f0 := Q.frozen 0
    have f1 := Q.frozen 1
    have ql := Q.lt
    have p0 := P.cellAt 0 rfl
    have p1 := P.cellAt 1 rfl
    have pl := P.lt
    cases hz : tnB k q 0 false
    · obtain ⟨g, rfl, hr2, ho2⟩ := reach_step (n := 13 - (f : Int)) hr hz
      have HR2 := Lib.hid hr2
      have HO2 := Lib.hid (ho.trans ho2)
      have hc := compV_ok ⟨k, q⟩ ⟨h, m⟩
      have HK := Lib.hid (HX.out k q hk)
      have HT := Lib.hid hc
      clear hr ho hr2 ho2 hc
      generalize hcc : compV ⟨k, q⟩ ⟨h, m⟩ = c at *
      have HCC := Lib.hid hcc
      clear hcc
      go_wp2_with (go_at_call 37; refine (HK.out _).mono ?_; rintro e w3 ⟨rfl, hb3⟩; have Q3 := Q.past hb3; have P3 := P.past hb3; have S3 := pt S hb3; clear q0 q1 f0 f1 ql p0 p1 pl; have q0 := Q3.cellAt 0 rfl; have q1 := Q3.cellAt 1 rfl; have f0 := Q3.frozen 0; have f1 := Q3.frozen 1; have ql := Q3.lt)
      go_roundw
      case rel =>
        refine ⟨g, c.hours, c.mir, by omega, ?_, HT.out, HR2.out, ?_, (Q3.set_ 0 _).set_ 1 _, (P3.far (by simp)).far (by simp), ps (ps S3 (by simp)) (by simp)⟩
        · congr 1; push_cast; omega
        · rw [HO2.out]; congr 1; push_cast; omega
      case measure => simp [intOf]; omega
    · have HO2 := Lib.hid (ho.trans (ord_end (a := ⟨h, m⟩) (b := ⟨k, q⟩) hz))
      clear hr ho
      obtain ⟨e1, e2⟩ := tnB_iff.1 hz
      go_wp2
      go_ret
      exact ⟨ret_int HO2.out.symm, S⟩

end Go.Proofs.YtnhcamokcggnkaaDoor
