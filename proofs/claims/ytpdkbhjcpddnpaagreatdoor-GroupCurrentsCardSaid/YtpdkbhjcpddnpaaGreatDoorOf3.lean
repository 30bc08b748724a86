/- Plain facts on the reference's check of currents: sums of ratios as far as they have come; what it compares. No program is in sight. -/
import Derived.Test.YtpdkbhjcpddnpaaGreatDoorOc9
import Derived.Test.YtpdkbhjcpddnpaaGreatDoorOd6
import Derived.Test.YtpdkbhjcpddnpaaGreatDoorOd9

section
namespace Go.Proofs.YtpdkbhjcpddnpaaGreatDoor
open Go.RowKit

def cuPr (cs : List Cu) (j : Nat) : Rat := Rat.divInt (cs.getD j default).pn (cs.getD j default).pd
def cuQr (cs : List Cu) (j : Nat) : Rat := Rat.divInt (cs.getD j default).qn (cs.getD j default).qd
def sumTo (F : Nat → Rat) (k : Nat) : Rat := sumR ((List.range k).map F)
theorem sumTo_zero (F : Nat → Rat) : sumTo F 0 = ((0 : Int) : Rat) := by simp [sumTo, sumR]
theorem sumTo_succ (F : Nat → Rat) (k : Nat) : sumTo F (k + 1) = sumTo F k + F k := by
  unfold sumTo
  rw [List.range_succ, List.map_append, sumR_app]
  simp [sumR, Rat.add_zero]
theorem sumTo_rb {F : Nat → Rat} : ∀ {k : Nat}, (∀ j, j < k → RB 3 (F j)) → RB (3 + 4 * k) (sumTo F k)
  | 0, _ => by
    rw [sumTo_zero]
    exact rb_mono (by simp) (rb_int (n := 0) (by decide))
  | k + 1, h => by
    rw [sumTo_succ]
    exact rb_mono (by omega) (rb_add (sumTo_rb fun j hj => h j (by omega)) (h k (by omega)))
theorem drop_busF {s : Src} {v n d : Int} (hs : s.d ≠ 0) (hd : d ≠ 0) : (v : Rat) - Rat.divInt s.n s.d * Rat.divInt n d = busF v s n d := by
  have h1 := cast_ne hs
  have h2 := cast_ne hd
  unfold busF busN busD
  rw [Rat.divInt_eq_div, Rat.divInt_eq_div, Rat.divInt_eq_div, Rat.intCast_sub, Rat.intCast_mul, Rat.intCast_mul, Rat.intCast_mul]
  grind
theorem cmp_eq (r s : Rat) : signD (r.num * s.den - s.num * r.den) = 0 ↔ r = s := by
  rw [signD_zero]
  constructor
  · intro h
    have h1 : r.num * s.den = s.num * r.den := by omega
    have e := (Rat.divInt_eq_divInt_iff (rden_ne r) (rden_ne s)).2 h1
    rwa [Rat.num_divInt_den, Rat.num_divInt_den] at e
  · rintro rfl
    omega
theorem fsmall_fr {n d : Int} (h1 : lowestB n d = true) (h2 : fsmallB n d = true) : FrOk n d := by
  unfold fsmallB at h2
  simp only [withinB, Bool.and_eq_true, decide_eq_true_eq] at h2
  exact ⟨h1, h2.1, by omega, h2.2.2⟩
theorem fsmall_no {n d : Int} (h1 : lowestB n d = true) (h2 : fsmallB n d = false) : frR n d = 2 := by
  unfold frR
  have h3 := (lowest_rat h1).1
  have : (withinB n (-1000000000) 1000000000 && decide (d ≤ 1000000000)) = fsmallB n d := by
    unfold fsmallB
    have e : withinB d 1 1000000000 = decide (d ≤ 1000000000) := by
      unfold withinB
      rw [decide_eq_true (show (1 : Int) ≤ d by omega), Bool.true_and]
    rw [e]
  rw [this, h2]
  rfl
theorem fr_rb {n d : Int} (h : FrOk n d) : RB 3 (Rat.divInt n d) := by
  obtain ⟨_, h2, h3, h4⟩ := h
  exact rb_of (by omega) (by omega) (by omega)
/-- What is found at one current. -/
theorem curE_low1 {s t : Src} {c b : Cu} (h : lowestB c.pn c.pd = false) : curE s t c b = 3 := by
  have e : frE c.pn c.pd = 3 := by unfold frE; rw [h]; rfl
  unfold curE
  rw [e]
  rfl
theorem curE_low2 {s t : Src} {c b : Cu} (h1 : lowestB c.pn c.pd = true) (h : lowestB c.qn c.qd = false) : curE s t c b = 3 := by
  have e : frE c.qn c.qd = 3 := by unfold frE; rw [h]; rfl
  have e1 : frE c.pn c.pd = 0 := by unfold frE; rw [h1]; rfl
  unfold curE
  rw [e, e1]
  rfl
theorem curE_small1 {s t : Src} {c b : Cu} (h1 : lowestB c.pn c.pd = true) (h2 : lowestB c.qn c.qd = true) (h : fsmallB c.pn c.pd = false) : curE s t c b = 2 := by
  have e2 : frE c.qn c.qd = 0 := by unfold frE; rw [h2]; rfl
  have e1 : frE c.pn c.pd = 0 := by unfold frE; rw [h1]; rfl
  unfold curE
  rw [e1, e2, fsmall_no h1 h]
  rfl
theorem curE_small2 {s t : Src} {c b : Cu} (h1 : lowestB c.pn c.pd = true) (h2 : lowestB c.qn c.qd = true) (h3 : fsmallB c.pn c.pd = true) (h : fsmallB c.qn c.qd = false) : curE s t c b = 2 := by
  have e2 : frE c.qn c.qd = 0 := by unfold frE; rw [h2]; rfl
  have e1 : frE c.pn c.pd = 0 := by unfold frE; rw [h1]; rfl
  unfold curE
  rw [e1, e2, fsmall_no h2 h, (ok_fr (fsmall_fr h1 h3)).2]
  rfl
theorem curE_bus1 {s t : Src} {c b : Cu} (h : CuOk c) (hn : ¬ busF s.p s c.pn c.pd = busF t.p t b.pn b.pd) : curE s t c b = 19 := by
  unfold curE
  rw [(ok_fr h.1).1, (ok_fr h.1).2, (ok_fr h.2).1, (ok_fr h.2).2, if_neg hn]
  rfl
theorem curE_bus2 {s t : Src} {c b : Cu} (h : CuOk c) (h1 : busF s.p s c.pn c.pd = busF t.p t b.pn b.pd) (hn : ¬ busF s.q s c.qn c.qd = busF t.q t b.qn b.qd) : curE s t c b = 19 := by
  unfold curE
  rw [(ok_fr h.1).1, (ok_fr h.1).2, (ok_fr h.2).1, (ok_fr h.2).2, if_pos h1, if_neg hn]
  rfl
theorem sum_bus {ls : List Src} (h : SrcsOk ls) {f : Src → Int} {x : Nat → Rat} {U : Rat} (hu : ∀ j, j < ls.length → uR f (ls.getD j default) (x j) = U) {load : Int} : sumTo x ls.length = (load : Rat) ↔ U = busR ls f load := by
  unfold sumTo
  refine open_iff h (c := (List.range ls.length).map x) (by simp) fun i hi => ?_
  have e : ((List.range ls.length).map x).getD i 0 = x i := by simp [List.getD_eq_getElem?_getD, hi]
  rw [e]
  exact hu i hi
/-- The currents are open exactly if one of the sums is not the load. -/
theorem open_sum {ls : List Src} (h : SrcsOk ls) {cs : List Cu} (hz : ∀ i, i < ls.length → curEs ls cs i = 0) {p q : Int} :
    openB ls p q (cs.getD 0 default) = true ↔ sumTo (cuPr cs) ls.length = (p : Rat) ∧ sumTo (cuQr cs) ls.length = (q : Rat) := by
  have hok : ∀ j, j < ls.length → CuOk (cs.getD j default) := fun j hj => (curE_ok (hz j hj)).1
  have hb : ∀ j, j < ls.length → uR Src.p (ls.getD j default) (cuPr cs j) = uR Src.p (ls.getD 0 default) (cuPr cs 0) ∧ uR Src.q (ls.getD j default) (cuQr cs j) = uR Src.q (ls.getD 0 default) (cuQr cs 0) := fun j hj => by
    obtain ⟨_, q2, q3⟩ := curE_ok (hz j hj)
    have s1 := (src_ne h _ (cur_mem hj)).2
    have s2 := (src_ne h _ (cur_mem h.1.1)).2
    have k1 := hok j hj
    have k2 := hok 0 h.1.1
    rw [busF_uR s1 (by have := k1.1.2.2.1; omega), busF_uR s2 (by have := k2.1.2.2.1; omega)] at q2
    rw [busF_uR s1 (by have := k1.2.2.2.1; omega), busF_uR s2 (by have := k2.2.2.2.1; omega)] at q3
    exact ⟨q2, q3⟩
  have z := hok 0 h.1.1
  unfold openB
  rw [Bool.and_eq_true, cross_iff h (by have := z.1.2.2.1; omega), cross_iff h (by have := z.2.2.2.1; omega), sum_bus h fun j hj => (hb j hj).1, sum_bus h fun j hj => (hb j hj).2]
  rfl

theorem scan_skip {E : Nat → Int} {n : Nat} : ∀ {k : Nat}, k ≤ n → (∀ j, j < k → E j = 0) → scanC E n 0 = scanC E (n - k) k
  | 0, _, _ => rfl
  | k + 1, hk, h => by
    rw [scan_skip (k := k) (by omega) fun j hj => h j (by omega), scan_at (by omega), if_pos (h k (by omega))]
theorem chk_bad {ls : List Src} {p q : Int} {cs : List Cu} {k : Nat} {e : Int} (hl : cs.length = ls.length) (hz : ∀ j, j < k → curEs ls cs j = 0) (hk : k < ls.length) (he : curEs ls cs k = e) (h0 : ¬ e = 0) : checkC ls p q cs = ((k : Int), e) := by
  have h1 : scanC (curEs ls cs) cs.length 0 = ((k : Int), e) := by
    rw [hl, scan_skip (Nat.le_of_lt hk) hz, scan_at hk, if_neg (by rw [he]; exact h0), he]
  rw [checkC_scan (by rw [h1]; exact h0), h1]
theorem chk_end {ls : List Src} {p q : Int} {cs : List Cu} (hl : cs.length = ls.length) (hz : ∀ j, j < ls.length → curEs ls cs j = 0) {b : Bool} (hb : openB ls p q (cs.getD 0 default) = b) : checkC ls p q cs = if b = true then (0, 0) else (0, 21) :=
  checkC_open (scan_zero.2 fun j _ hj => hz j (by omega)) b hb
theorem cu_mem {cs : List Cu} {i : Nat} (h : i < cs.length) : cs.getD i default ∈ cs := by
  rw [List.getD_eq_getElem?_getD, List.getElem?_eq_getElem h]
  exact List.getElem_mem h
theorem fr_i64 {n d : Int} (h : FrOk n d) : I64s n ∧ I64s d ∧ d ≠ 0 := by
  obtain ⟨_, h1, h2, h3⟩ := h
  unfold I64s
  omega
theorem src_i64 {s : Src} (h : SrcOk s) : I64s s.p ∧ I64s s.q ∧ I64s s.n ∧ I64s s.d ∧ s.d ≠ 0 := by
  obtain ⟨h1, h2, h3, h4⟩ := h
  unfold I64s
  omega
theorem drop_rb {sn sd v n d : Int} (hv : I64s v) (hn : I64s sn) (hd : I64s sd) (h0 : sd ≠ 0) (hf : FrOk n d) : RB 100 ((v : Rat) - Rat.divInt sn sd * Rat.divInt n d) := by
  unfold I64s at *
  exact rb_mono (by decide) (rb_sub (rb_int (n := v) (by omega)) (rb_mul (rb_of (by omega) (by omega) h0) (fr_rb hf)))

end Go.Proofs.YtpdkbhjcpddnpaaGreatDoor
end
