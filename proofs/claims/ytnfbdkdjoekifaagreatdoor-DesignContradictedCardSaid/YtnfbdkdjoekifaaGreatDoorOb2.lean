/- Contracts: the sum of a requirement's terms, its margin, what a part takes from it, what a part costs (package design). -/
import Derived.Test.YtnfbdkdjoekifaaGreatDoorOa9
import Derived.Test.YtnfbdkdjoekifaaGreatDoorOa7
import Derived.Test.YtnfbdkdjoekifaaGreatDoorOb1

section
namespace Go.Proofs.YtnfbdkdjoekifaaGreatDoor
open Go.RowKit

attribute [local go_sem high] minI maxI
def rngV (x : Int × Int) : Value := .agg #[.int .i64 x.1, .int .i64 x.2]
def valsC (v : Int → Int × Int) : Array Value := #[.int .i64 (v 0).1, .int .i64 (v 0).2, .int .i64 (v 1).1, .int .i64 (v 1).2, .int .i64 (v 2).1, .int .i64 (v 2).2, .int .i64 (v 3).1, .int .i64 (v 3).2, .int .i64 (v 4).1, .int .i64 (v 4).2, .int .i64 (v 5).1, .int .i64 (v 5).2]
def valsV (v : Int → Int × Int) : Value := .agg (valsC v)
theorem vals_cell (v : Int → Int × Int) : ∀ {q : Nat}, q < 6 → (valsC v)[q * 2]? = some (.int .i64 (v (q : Int)).1) ∧ (valsC v)[q * 2 + 1]? = some (.int .i64 (v (q : Int)).2)
  | 0, _ => ⟨rfl, rfl⟩
  | 1, _ => ⟨rfl, rfl⟩
  | 2, _ => ⟨rfl, rfl⟩
  | 3, _ => ⟨rfl, rfl⟩
  | 4, _ => ⟨rfl, rfl⟩
  | 5, _ => ⟨rfl, rfl⟩
  | q + 6, h => absurd h (by omega)
/-- Values in their ranges; terms in theirs. -/
def ValsOk (v : Int → Int × Int) : Prop := ∀ q : Int, (0 ≤ (v q).1 ∧ (v q).1 ≤ 10000000) ∧ 0 ≤ (v q).2 ∧ (v q).2 ≤ 10000000
def TermsOk (ts : List DTerm) : Prop := ts.length ≤ 8 ∧ ∀ t ∈ ts, (-1000 ≤ t.f ∧ t.f ≤ 1000) ∧ 0 ≤ t.q ∧ t.q ≤ 5
theorem mulf_bd {a b : Int} (ha : -1000 ≤ a ∧ a ≤ 1000) (hb : 0 ≤ b ∧ b ≤ 10000000) : -10000000000 ≤ a * b ∧ a * b ≤ 10000000000 := by
  have h1 := Int.mul_le_mul_of_nonneg_right ha.2 hb.1
  have h2 := Int.mul_le_mul_of_nonneg_right ha.1 hb.1
  omega
theorem sumT_bd {v : Int → Int × Int} (hv : ValsOk v) : ∀ {ts : List DTerm}, TermsOk ts → ∀ k : Nat, k ≤ ts.length → (-10000000000 * (k : Int) ≤ (sumT (ts.take k) v).1 ∧ (sumT (ts.take k) v).1 ≤ 10000000000 * (k : Int)) ∧ -10000000000 * (k : Int) ≤ (sumT (ts.take k) v).2 ∧ (sumT (ts.take k) v).2 ≤ 10000000000 * (k : Int)
  | ts, _, 0, _ => by simp [sumT]
  | ts, ht, k + 1, hk => by
    have ih := sumT_bd hv ht k (by omega)
    rw [take_snoc (by omega), sumT_snoc]
    have h1 := ht.2 _ (getD_mem' (show k < ts.length by omega))
    have h2 := hv (ts.getD k default).q
    have h3 := mulf_bd h1.1 h2.1
    have h4 := mulf_bd h1.1 h2.2
    unfold stepT
    dsimp only
    omega

set_option maxRecDepth 100000 in
set_option maxHeartbeats 4000000 in
theorem sum_any (B : Nat) (ts : List DTerm) (A : Option Addr) (n c : Nat) (ge : Bool) (lim unit : Int) (v : Int → Int × Int) (w : World) (hr : CellsIn B w A (termsC ts)) (hB : B ≤ w.heap.size) (hn : ts.length = n) (ht : TermsOk ts) (hv : ValsOk v) :
    Calls Tryz.prog 86 #[.agg #[.slice A n c, .bool ge, .int .i64 lim, .int .i64 unit], valsV v] w fun e w' => e = .returned (rngV (sumT ts v)) ∧ Below w.heap.size w w' := by
  have HR := Lib.hid hr
  have HN := Lib.hid hn
  have HT := Lib.hid ht
  have HV := Lib.hid hv
  have hn8 : n ≤ 8 := by rw [← hn]; exact ht.1
  have HC := Lib.hid (show valsC v = #[.int .i64 (v 0).1, .int .i64 (v 0).2, .int .i64 (v 1).1, .int .i64 (v 1).2, .int .i64 (v 2).1, .int .i64 (v 2).2, .int .i64 (v 3).1, .int .i64 (v 3).2, .int .i64 (v 4).1, .int .i64 (v 4).2, .int .i64 (v 5).1, .int .i64 (v 5).2] from rfl)
  clear hr hn ht hv
  unfold valsV valsC rngV
  go_enter Tryz.func86, Tryz.ntmps86
  go_wp2
  have HS0 := Lib.hid (show Blk ((((w.alloc (.cells #[.slice A n c, .bool ge, .int .i64 lim, .int .i64 unit] 45)).alloc (.cells #[.int .i64 (v 0).1, .int .i64 (v 0).2, .int .i64 (v 1).1, .int .i64 (v 1).2, .int .i64 (v 2).1, .int .i64 (v 2).2, .int .i64 (v 3).1, .int .i64 (v 3).2, .int .i64 (v 4).1, .int .i64 (v 4).2, .int .i64 (v 5).1, .int .i64 (v 5).2] 118)).alloc (.cells #[.int .i64 0, .int .i64 0] 57)).alloc (.cells #[.int .i64 0, .int .i64 0] 57)) (w.heap.size + 1) 118 (valsC v) ∧ Blk ((((w.alloc (.cells #[.slice A n c, .bool ge, .int .i64 lim, .int .i64 unit] 45)).alloc (.cells #[.int .i64 (v 0).1, .int .i64 (v 0).2, .int .i64 (v 1).1, .int .i64 (v 1).2, .int .i64 (v 2).1, .int .i64 (v 2).2, .int .i64 (v 3).1, .int .i64 (v 3).2, .int .i64 (v 4).1, .int .i64 (v 4).2, .int .i64 (v 5).1, .int .i64 (v 5).2] 118)).alloc (.cells #[.int .i64 0, .int .i64 0] 57)).alloc (.cells #[.int .i64 0, .int .i64 0] 57)) (w.heap.size + 1 + 1 + 1) 57 #[.int .i64 (sumT (ts.take 0) v).1, .int .i64 (sumT (ts.take 0) v).2] ∧ (∃ cs, Blk ((((w.alloc (.cells #[.slice A n c, .bool ge, .int .i64 lim, .int .i64 unit] 45)).alloc (.cells #[.int .i64 (v 0).1, .int .i64 (v 0).2, .int .i64 (v 1).1, .int .i64 (v 1).2, .int .i64 (v 2).1, .int .i64 (v 2).2, .int .i64 (v 3).1, .int .i64 (v 3).2, .int .i64 (v 4).1, .int .i64 (v 4).2, .int .i64 (v 5).1, .int .i64 (v 5).2] 118)).alloc (.cells #[.int .i64 0, .int .i64 0] 57)).alloc (.cells #[.int .i64 0, .int .i64 0] 57)) (w.heap.size + 1 + 1) 57 cs ∧ cs.size = 2) ∧ Below w.heap.size w ((((w.alloc (.cells #[.slice A n c, .bool ge, .int .i64 lim, .int .i64 unit] 45)).alloc (.cells #[.int .i64 (v 0).1, .int .i64 (v 0).2, .int .i64 (v 1).1, .int .i64 (v 1).2, .int .i64 (v 2).1, .int .i64 (v 2).2, .int .i64 (v 3).1, .int .i64 (v 3).2, .int .i64 (v 4).1, .int .i64 (v 4).2, .int .i64 (v 5).1, .int .i64 (v 5).2] 118)).alloc (.cells #[.int .i64 0, .int .i64 0] 57)).alloc (.cells #[.int .i64 0, .int .i64 0] 57)) from
    ⟨((Blk.newAt (by simp)).alloc).alloc, Blk.newAt (by simp), ⟨_, (Blk.newAt (by simp)).alloc, rfl⟩, pa (pa (pa (pa pr)))⟩)
  generalize ((((w.alloc (.cells #[.slice A n c, .bool ge, .int .i64 lim, .int .i64 unit] 45)).alloc (.cells #[.int .i64 (v 0).1, .int .i64 (v 0).2, .int .i64 (v 1).1, .int .i64 (v 1).2, .int .i64 (v 2).1, .int .i64 (v 2).2, .int .i64 (v 3).1, .int .i64 (v 3).2, .int .i64 (v 4).1, .int .i64 (v 4).2, .int .i64 (v 5).1, .int .i64 (v 5).2] 118)).alloc (.cells #[.int .i64 0, .int .i64 0] 57)).alloc (.cells #[.int .i64 0, .int .i64 0] 57)) = v0 at *
  have HN3 := Lib.hid (show w.heap.size ≤ w.heap.size + 1 ∧ w.heap.size ≤ w.heap.size + 1 + 1 ∧ w.heap.size ≤ w.heap.size + 1 + 1 + 1 ∧ w.heap.size + 1 ≠ w.heap.size + 1 + 1 ∧ w.heap.size + 1 ≠ w.heap.size + 1 + 1 + 1 ∧ w.heap.size + 1 + 1 ≠ w.heap.size + 1 + 1 + 1 by omega)
  generalize w.heap.size + 1 + 1 + 1 = b5 at *
  generalize w.heap.size + 1 + 1 = b4 at *
  generalize w.heap.size + 1 = bv at *
  go_loopw [13] (fun iv wr => ∃ k : Nat, iv = .int .i64 (k : Int) ∧ k ≤ n ∧ Blk wr bv 118 (valsC v) ∧ Blk wr (b5) 57 #[.int .i64 (sumT (ts.take k) v).1, .int .i64 (sumT (ts.take k) v).2] ∧ (∃ cs, Blk wr (b4) 57 cs ∧ cs.size = 2) ∧ Below w.heap.size w wr) (fun iv _ => n - (intOf iv).toNat)
  case atStart => exact ⟨0, rfl, Nat.zero_le _, HS0.out⟩
  case round =>
    clear HS0
    obtain ⟨k, rfl, hk, q1, q2, ⟨cs, q3, hcs⟩, hq⟩ := hrel
    have HQ := Lib.hid hq
    have Q1 := Lib.hid q1
    have Q2 := Lib.hid q2
    have Q3 := Lib.hid q3
    have hbd := sumT_bd HV.out HT.out k (by rw [HN.out]; exact hk)
    by_cases hlt : k < n
    · obtain ⟨b, off, rfl, hb, hct⟩ := terms_at (HR.out.below (HQ.out.mono hB)) (k := k) (by rw [HN.out]; exact hlt)
      obtain ⟨c0, c1⟩ := hct k (by rw [HN.out]; exact hlt)
      have hm := HT.out.2 _ (getD_mem' (show k < ts.length by rw [HN.out]; exact hlt))
      have hst := sumT_snoc (ts.take k) (ts.getD k default) v
      rw [← take_snoc (by rw [HN.out]; exact hlt)] at hst
      have hvq := HV.out (ts.getD k default).q
      have hbw : b < wr.heap.size := Nat.lt_of_lt_of_le (Nat.lt_of_lt_of_le hb hB) HQ.out.size
      unfold stepT at hst
      generalize ts.getD k default = tm at *
      obtain ⟨f, q⟩ := tm
      dsimp only at *
      obtain ⟨qn, rfl⟩ : ∃ qn : Nat, q = (qn : Int) := ⟨q.toNat, by omega⟩
      obtain ⟨e1, e2⟩ := vals_cell v (q := qn) (by omega)
      have g1 := (Q1.out.cell _).trans e1
      have g2 := (Q1.out.cell _).trans e2
      have gl := Q1.out.lt
      generalize (v (qn : Int)).1 = lo at *
      generalize (v (qn : Int)).2 = hi at *
      have p1 := mulf_bd hm.1 hvq.1
      have p2 := mulf_bd hm.1 hvq.2
      generalize hs1 : (sumT (ts.take k) v).1 = s1 at *
      generalize hs2 : (sumT (ts.take k) v).2 = s2 at *
      have k8 : (k : Int) ≤ 8 := by omega
      have k0 : (0 : Int) ≤ (k : Int) := by omega
      have bd1 : -80000000000 ≤ s1 ∧ s1 ≤ 80000000000 := by omega
      have bd2 : -80000000000 ≤ s2 ∧ s2 ≤ 80000000000 := by omega
      have hw1 : wrap64 (f * lo) = f * lo := w64 (by omega)
      have hw2 : wrap64 (f * hi) = f * hi := w64 (by omega)
      have hw3 : wrap64 (s1 + min (f * lo) (f * hi)) = s1 + min (f * lo) (f * hi) := w64 (by omega)
      have hw4 : wrap64 (s2 + max (f * lo) (f * hi)) = s2 + max (f * lo) (f * hi) := w64 (by omega)
      have d1 := Q2.out.cellAt 0 rfl
      have d2 := Q2.out.cellAt 1 rfl
      have dl := Q2.out.lt
      have q60 : (0 : Int) ≤ (qn : Int) := by omega
      have q61 : (qn : Int) < 6 := by omega
      have HSt := Lib.hid hst
      have HCt := Lib.hid hct
      clear hst hct hm hvq hbd p1 p2 bd1 bd2 e1 e2 hs1 hs2 q1 q2 q3
      go_wp2
      refine region_below 17 follows_mixed (by kernel_rfl) ?_
      intro C hC
      simp only [List.take_succ_cons, List.take_zero, List.drop_succ_cons, List.drop_zero]
      repeat (first
        | ((with_reducible refine quiet_plain rfl (fun K hK => ?_)); (focus (apply quiet_val; (focus (intro w' hw; obtain ⟨hcq, hfq⟩ := bcell ((hC.out _).1 hw); go_simp; (first | done | rfl))); (simp only [Act.put, List.setIfInBounds_toArray, List.set_cons_succ, List.set_cons_zero]); (with_reducible refine hK _ ?_); clear hK K)))
        | ((with_reducible refine quiet_skip ?_ ?_); (focus (first | (simp [Region.wanted, yielded]; done) | (simp [Region.wanted, yielded, undef]; done))); simp only [Act.put, List.setIfInBounds_toArray, List.set_cons_succ, List.set_cons_zero])
        | ((with_reducible refine quiet_go ?_ (fun K hK => ?_)); (focus (first | (simp [Region.wanted, yielded]; done) | (simp [Region.wanted, yielded, undef]; done))); (focus (apply quiet_val; (focus (intro w' hw; obtain ⟨hcq, hfq⟩ := bcell ((hC.out _).1 hw); go_simp; (first | done | rfl))); (simp only [Act.put, List.setIfInBounds_toArray, List.set_cons_succ, List.set_cons_zero]); (with_reducible refine hK _ ?_); clear hK K))))
      refine wpQuiet_nil ?_
      intro w1 hb1
      replace hb1 := (hC.out _).1 hb1
      clear hC C
      obtain ⟨hc1, hf1⟩ := bcell hb1
      have P1 := Lib.hid ((Q1.out.alloc).past hb1)
      have P2 := Lib.hid ((Q2.out.alloc).past hb1)
      have P3 := Lib.hid ((Q3.out.alloc).past hb1)
      have PB := Lib.hid (pt (pa HQ.out) hb1)
      have d3 := P2.out.cellAt 0 rfl
      have d4 := P2.out.cellAt 1 rfl
      have dl2 := P2.out.lt
      clear d1 d2 hb1 hc1 hf1
      go_wp2_with ((with_reducible refine store_blk (T := 57) (x := .tmp 5) (y := .tmp 45) (vs := #[.int .i64 (s1 + min (f * lo) (f * hi)), .int .i64 (s2 + max (f * lo) (f * hi))]) P2.out ?_ ?_ ?_ ?_ ?_ ?_); (focus rfl); (focus exact range_size); (focus (simp [Value.oneCell']; done)); (focus (first | rfl | (go_simp; done))); (focus (first | rfl | (go_simp; done))); intro WF RF PF)
      go_roundw
      case rel =>
        obtain ⟨n1, n2, n3, n4, n5, n6⟩ := HN3.out
        exact ⟨k + 1, by go_num, by omega, P1.out.put PF n5, by rw [HSt.out]; exact RF, ⟨cs, P3.out.put PF n6, hcs⟩, pp PB.out PF n3⟩
      case measure => simp [intOf]; omega
    · have hkn : k = n := by omega
      subst hkn
      have ht : ts.take k = ts := List.take_of_length_le (by rw [HN.out]; exact Nat.le_refl _)
      rw [ht] at Q2
      have d1 := Q2.out.cellAt 0 rfl
      have d2 := Q2.out.cellAt 1 rfl
      have dl := Q2.out.lt
      clear q1 q2 q3 hbd ht
      go_wp2_with ((with_reducible refine store_blk (T := 57) (x := .tmp 4) (y := .tmp 47) (vs := #[.int .i64 (sumT ts v).1, .int .i64 (sumT ts v).2]) Q3.out ?_ ?_ ?_ ?_ ?_ ?_); (focus (first | rfl | exact hcs | (simp [hcs]; done))); (focus exact range_size); (focus (simp [Value.oneCell']; done)); (focus (first | rfl | (go_simp; done))); (focus (first | rfl | (go_simp; done))); intro WF RF PF)
      have r0 := RF.cellAt 0 rfl
      have r1 := RF.cellAt 1 rfl
      refine bodyPost_ret (v := .agg #[.int .i64 (sumT ts v).1, .int .i64 (sumT ts v).2]) (by simp [results, Tryz.results86, go_sem, r0, r1]) rfl ?_
      exact ⟨rfl, pp HQ.out PF HN3.out.2.1⟩

end Go.Proofs.YtnfbdkdjoekifaaGreatDoor
end
