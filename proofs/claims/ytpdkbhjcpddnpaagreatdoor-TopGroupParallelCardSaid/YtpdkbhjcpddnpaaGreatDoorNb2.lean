/- Contract: the error of a current. Printed by a program (gen_curerr.py).
Contract: which currents of parallel sources are accepted. Printed by a program (gen_chk.py).
Two sources side by side: plain facts on their currents; contracts for two sources. -/
import Derived.Test.YtpdkbhjcpddnpaaGreatDoorNL
import Derived.Test.YtpdkbhjcpddnpaaGreatDoorNa3
import Derived.Test.YtpdkbhjcpddnpaaGreatDoorNa4
import Derived.Test.YtpdkbhjcpddnpaaGreatDoorNN
import Derived.Test.YtpdkbhjcpddnpaaGreatDoorNb3
import Derived.Test.YtpdkbhjcpddnpaaGreatDoorNP

section
namespace Go.Proofs.YtpdkbhjcpddnpaaGreatDoor
open Go.RowKit
attribute [local go_sem ↓] Go.wp_at_zero Go.wp_at_succ
attribute [local go_sem] pp_at0 pp_at1

theorem chk_at0 (W : World) : Sem.run Tryz.prog (Instr.index 168 (.agg #[.func (.func 91) #[] #[], .func (.func 92) #[] #[]]) (.int .i64 0)) W = .ok (.func (.func 91) #[] #[]) W := by kernel_rfl
theorem chk_at1 (W : World) : Sem.run Tryz.prog (Instr.index 168 (.agg #[.func (.func 91) #[] #[], .func (.func 92) #[] #[]]) (.int .i64 1)) W = .ok (.func (.func 92) #[] #[]) W := by kernel_rfl
attribute [local go_sem] chk_at0 chk_at1

set_option maxHeartbeats 1000000 in
theorem chk1_any (n d : Int) (hn : W64 n) (hd : W64 d) (w : World) :
    Calls Tryz.prog 91 #[.agg #[.int .i64 n, .int .i64 d]] w fun e w' => e = .returned (.int .i64 (frE n d)) ∧ Below w.heap.size w w' := by
  have HI := Lib.hid (fun w => isLowest_all n d hn hd w)
  unfold frE
  clear hn hd
  generalize lowestB n d = b at *
  go_enter Tryz.func91, Tryz.ntmps91
  go_wp2_with (first
    | (go_at_call 85; (with_reducible refine (HI.out _).mono ?_); rintro e w1 ⟨rfl, hb1⟩)
    | (go_at_call 46; (with_reducible refine (unless_any _ _ _).mono ?_); rintro e w' ⟨rfl, rfl⟩))
  go_ret
  exact ⟨rfl, pt (pa pr) hb1⟩

set_option maxHeartbeats 1000000 in
theorem chk2_any (n d : Int) (w : World) :
    Calls Tryz.prog 92 #[.agg #[.int .i64 n, .int .i64 d]] w fun e w' => e = .returned (.int .i64 (frR n d)) ∧ Below w.heap.size w w' := by
  have HI := Lib.hid (fun w => small_any n 1000000000 (by decide) (by decide) w)
  unfold frR
  generalize withinB n (-1000000000) 1000000000 = b at *
  cases b with
  | false =>
    rw [Bool.false_and]
    go_enter Tryz.func92, Tryz.ntmps92
    go_wp2_with (first
      | (go_at_call 44; (with_reducible refine (HI.out _).mono ?_); rintro e w1 ⟨rfl, rfl⟩)
      | (go_at_call 46; (with_reducible refine (unless_any _ _ _).mono ?_); rintro e w' ⟨rfl, rfl⟩))
    go_ret
    exact ⟨rfl, pa pr⟩
  | true =>
    rw [Bool.true_and]
    go_enter Tryz.func92, Tryz.ntmps92
    go_wp2_with (first
      | (go_at_call 44; (with_reducible refine (HI.out _).mono ?_); rintro e w1 ⟨rfl, rfl⟩)
      | (go_at_call 46; (with_reducible refine (unless_any _ _ _).mono ?_); rintro e w' ⟨rfl, rfl⟩))
    go_ret
    exact ⟨rfl, pa pr⟩

theorem bus_parts {x y : Rat} (h : x = y) : x.num = y.num ∧ (x.den : Int) = (y.den : Int) := by subst h; exact ⟨rfl, rfl⟩
theorem bus_other {x y : Rat} (h : x ≠ y) : x.num ≠ y.num ∨ (x.den : Int) ≠ (y.den : Int) := by
  by_cases h1 : x.num = y.num
  · right
    intro h2
    exact h (by
      have e1 := Rat.num_divInt_den x
      have e2 := Rat.num_divInt_den y
      rw [← e1, ← e2, h1, h2])
  · exact .inl h1
theorem fv_1 {a b c d : Int} (h : a ≠ 0) : firstV [a, b, c, d] = a := by simp [firstV, h]
theorem fv_2 {a b c d : Int} (h0 : a = 0) (h : b ≠ 0) : firstV [a, b, c, d] = b := by simp [firstV, h0, h]
theorem fv_3 {a b c d : Int} (h0 : a = 0) (h1 : b = 0) (h : c ≠ 0) : firstV [a, b, c, d] = c := by simp [firstV, h0, h1, h]
theorem fv_4 {a b c d : Int} (h0 : a = 0) (h1 : b = 0) (h2 : c = 0) : firstV [a, b, c, d] = d := by simp [firstV, h0, h1, h2]; intro h; exact h.symm
theorem fv_two {a b : Int} (h : firstV [a, b] = 0) : a = 0 ∧ b = 0 := by
  obtain ⟨h1, h2⟩ := firstV_zero.1 h
  exact ⟨h1, (firstV_zero.1 h2).1⟩


set_option maxHeartbeats 16000000 in
set_option maxRecDepth 100000 in
theorem currentErr_any (B : Nat) (ls : List Src) (A : Option Addr) (c : Nat) (cs : List Cu) (A2 : Option Addr) (c2 : Nat) (i : Nat) (w : World) (hr : SrcsIn B w A ls) (hr2 : CusIn B w A2 cs) (hB : B ≤ w.heap.size) (hi : i < ls.length) (hl : cs.length = ls.length) (hok : SrcsOk ls) (h64 : ∀ s ∈ cs, Cu64 s) (hz : i = 0 ∨ CuOk (cs.getD 0 default)) :
    Calls Tryz.prog 47 #[.slice A ls.length c, .slice A2 cs.length c2, .int .i64 (i : Int)] w fun r w' => r = .returned (.int .i64 (curEs ls cs i)) ∧ Below w.heap.size w w' := by
  have hic : i < cs.length := by omega
  have h0 : 0 < ls.length := hok.1.1
  have h0c : 0 < cs.length := by omega
  have hokI := hok.at_ hi
  have hok0 := hok.at_ h0
  have i0 := src_cast i
  have i1 := src_lt hi
  have i2 := src_lt hic
  have j1 : (0 : Int) < (ls.length : Int) := by omega
  have j2 : (0 : Int) < (cs.length : Int) := by omega
  have i9 : (i : Int) ≤ 4 := by have := hok.1.2; omega
  obtain ⟨b, off, hA, hb, hct⟩ := hr.at_ hi
  subst hA
  obtain ⟨b2, off2, hA2, hb2, hct2⟩ := hr2.at_ hic
  subst hA2
  have hcu : Cu64 (cs.getD i default) := h64 _ (by rw [List.getD_eq_getElem?_getD, List.getElem?_eq_getElem hic]; exact List.getElem_mem hic)
  have hv : curEs ls cs i = curE (ls.getD i default) (ls.getD 0 default) (cs.getD i default) (cs.getD 0 default) := rfl
  have hz : CuOk (cs.getD i default) → CuOk (cs.getD 0 default) := fun h => by
    rcases hz with rfl | hz
    · exact h
    · exact hz
  rw [hv]
  have hS := hct i hi
  have hS0 := hct 0 h0
  have hC := hct2 i hic
  have hC0 := hct2 0 h0c
  have hbw : b < w.heap.size := Nat.lt_of_lt_of_le hb hB
  have hb2w : b2 < w.heap.size := Nat.lt_of_lt_of_le hb2 hB
  clear hct hct2 hr hr2 h64 hv hok hl hic
  generalize ls.getD i default = s at *
  generalize ls.getD 0 default = t at *
  generalize cs.getD i default = cu at *
  generalize cs.getD 0 default = cz at *
  generalize ls.length = n at *
  generalize cs.length = m at *
  obtain ⟨sp, sq, sn, sd⟩ := s
  obtain ⟨tp, tq, tn, td⟩ := t
  obtain ⟨pn, pd, qn, qd⟩ := cu
  obtain ⟨zpn, zpd, zqn, zqd⟩ := cz
  dsimp only at hS hS0 hC hC0
  rw [Nat.zero_mul, Nat.add_zero] at hS0 hC0
  have HCells := Lib.hid (show ∀ W, Below w.heap.size w W → (W.cell? ⟨b, off + i * 4, none⟩ = some (.int .i64 sp) ∧ W.cell? ⟨b, off + i * 4 + 1, none⟩ = some (.int .i64 sq) ∧ W.cell? ⟨b, off + i * 4 + 2, none⟩ = some (.int .i64 sn) ∧ W.cell? ⟨b, off + i * 4 + 3, none⟩ = some (.int .i64 sd) ∧ b < W.heap.size) ∧
      (W.cell? ⟨b, off, none⟩ = some (.int .i64 tp) ∧ W.cell? ⟨b, off + 1, none⟩ = some (.int .i64 tq) ∧ W.cell? ⟨b, off + 2, none⟩ = some (.int .i64 tn) ∧ W.cell? ⟨b, off + 3, none⟩ = some (.int .i64 td) ∧ b2 < W.heap.size) ∧
      (W.cell? ⟨b2, off2, none⟩ = some (.int .i64 zpn) ∧ W.cell? ⟨b2, off2 + 1, none⟩ = some (.int .i64 zpd) ∧ W.cell? ⟨b2, off2 + 2, none⟩ = some (.int .i64 zqn) ∧ W.cell? ⟨b2, off2 + 3, none⟩ = some (.int .i64 zqd) ∧ b2 < W.heap.size) from fun W hW =>
    ⟨⟨((bcell hW).1 _ _ hbw).trans hS.1, ((bcell hW).1 _ _ hbw).trans hS.2.1, ((bcell hW).1 _ _ hbw).trans hS.2.2.1, ((bcell hW).1 _ _ hbw).trans hS.2.2.2, Nat.lt_of_lt_of_le hbw hW.size⟩,
     ⟨((bcell hW).1 _ _ hbw).trans hS0.1, ((bcell hW).1 _ _ hbw).trans hS0.2.1, ((bcell hW).1 _ _ hbw).trans hS0.2.2.1, ((bcell hW).1 _ _ hbw).trans hS0.2.2.2, Nat.lt_of_lt_of_le hb2w hW.size⟩,
     ⟨((bcell hW).1 _ _ hb2w).trans hC0.1, ((bcell hW).1 _ _ hb2w).trans hC0.2.1, ((bcell hW).1 _ _ hb2w).trans hC0.2.2.1, ((bcell hW).1 _ _ hb2w).trans hC0.2.2.2, Nat.lt_of_lt_of_le hb2w hW.size⟩⟩)
  obtain ⟨u0, u1, u2, u3⟩ := hC
  have HK1p := Lib.hid (chk1_any pn pd hcu.1 hcu.2.1)
  have HK1q := Lib.hid (chk1_any qn qd hcu.2.2.1 hcu.2.2.2)
  have HK2p := Lib.hid (chk2_any pn pd)
  have HK2q := Lib.hid (chk2_any qn qd)
  have HR0 := Lib.hid (show curE ⟨sp, sq, sn, sd⟩ ⟨tp, tq, tn, td⟩ ⟨pn, pd, qn, qd⟩ ⟨zpn, zpd, zqn, zqd⟩ = firstV [firstV [frE pn pd, frE qn qd], firstV [frR pn pd, frR qn qd], if busF sp ⟨sp, sq, sn, sd⟩ pn pd = busF tp ⟨tp, tq, tn, td⟩ zpn zpd then 0 else 19, if busF sq ⟨sp, sq, sn, sd⟩ qn qd = busF tq ⟨tp, tq, tn, td⟩ zqn zqd then 0 else 19] from rfl)
  generalize curE ⟨sp, sq, sn, sd⟩ ⟨tp, tq, tn, td⟩ ⟨pn, pd, qn, qd⟩ ⟨zpn, zpd, zqn, zqd⟩ = R at *
  have HFr := Lib.hid (show firstV [frE pn pd, frE qn qd] = 0 → firstV [frR pn pd, frR qn qd] = 0 → CuOk ⟨pn, pd, qn, qd⟩ from fun h1 h2 => ⟨fr_ok (fv_two h1).1 (fv_two h2).1, fr_ok (fv_two h1).2 (fv_two h2).2⟩)
  have HOk := Lib.hid (And.intro hokI hok0)
  have HZ := Lib.hid hz
  clear hcu hS hS0 hC0 hokI hok0 hz hb hb2 hB
  generalize frE pn pd = A1p at *
  generalize frE qn qd = A1q at *
  generalize frR pn pd = A2p at *
  generalize frR qn qd = A2q at *

  go_enter Tryz.func47, Tryz.ntmps47
  go_wp2
  refine wp_loop_rounds 3 ?_
  have OB := Lib.hid (show Blk (w.alloc (.cells #[.int .i64 pn, .int .i64 pd, .int .i64 qn, .int .i64 qd] 90)) w.heap.size 90 #[.int .i64 pn, .int .i64 pd, .int .i64 qn, .int .i64 qd] from Blk.new _ _ _)
  have SB := Lib.hid (pa (o := .cells #[.int .i64 pn, .int .i64 pd, .int .i64 qn, .int .i64 qd] 90) (pr (w := w)))
  generalize w.alloc (.cells #[.int .i64 pn, .int .i64 pd, .int .i64 qn, .int .i64 qd] 90) = v at *
  clear u0 u1 u2 u3
  rw [rounds_succ]
  have o0 := OB.out.cellAt 0 rfl
  have o1 := OB.out.cellAt 1 rfl
  have o2 := OB.out.cellAt 2 rfl
  have o3 := OB.out.cellAt 3 rfl
  have ol := OB.out.lt
  go_wp2
  refine region_below 8 follows_mixed (by kernel_rfl) ?_
  intro C hC
  simp only [List.take_succ_cons, List.take_zero, List.drop_succ_cons, List.drop_zero]
  repeat (first
    | ((with_reducible refine quiet_plain rfl (fun K hK => ?_)); (focus (apply quiet_val; (focus (intro w' hw; obtain ⟨hcq, hfq⟩ := bcell ((hC.out _).1 hw); go_simp; (first | done | rfl | (with_reducible exact call_below hC hw (HK1p.out _)) | (with_reducible exact call_below hC hw (HK1q.out _))))); (simp only [Act.put, List.setIfInBounds_toArray, List.set_cons_succ, List.set_cons_zero]); (with_reducible refine hK _ ?_); clear hK K)))
    | ((with_reducible refine quiet_skip ?_ ?_); (focus (first | (simp [Region.wanted, yielded]; done) | (simp [Region.wanted, yielded, undef]; done))); simp only [Act.put, List.setIfInBounds_toArray, List.set_cons_succ, List.set_cons_zero])
    | ((with_reducible refine quiet_go ?_ (fun K hK => ?_)); (focus (first | (simp [Region.wanted, yielded]; done) | (simp [Region.wanted, yielded, undef]; done))); (focus (apply quiet_val; (focus (intro w' hw; obtain ⟨hcq, hfq⟩ := bcell ((hC.out _).1 hw); go_simp; (first | done | rfl | (with_reducible exact call_below hC hw (HK1p.out _)) | (with_reducible exact call_below hC hw (HK1q.out _))))); (simp only [Act.put, List.setIfInBounds_toArray, List.set_cons_succ, List.set_cons_zero]); (with_reducible refine hK _ ?_); clear hK K))))
  refine wpQuiet_nil ?_
  intro w1 hb1
  replace hb1 := (hC.out _).1 hb1
  clear hC C
  obtain ⟨hc1, hf1⟩ := bcell hb1
  have OB := Lib.hid (OB.out.past hb1)
  have SB := Lib.hid (pt SB.out hb1)
  clear hb1 hc1 hf1 o0 o1 o2 o3 ol
  obtain ⟨E1, hE⟩ : ∃ E, firstV [A1p, A1q] = E := ⟨_, rfl⟩
  have HV1 := Lib.hid hE
  clear hE
  by_cases h1 : E1 = 0
  rotate_left
  · have HR := Lib.hid (show R = E1 by rw [HR0.out, fv_1 (by rw [HV1.out]; exact h1), HV1.out])
    have eb : (E1 != 0) = true := by simpa using h1
    go_wp2_with (go_at_call 45; refine (gfirst2 _ _ _ _ _ (by first | (go_simp; done) | (go_simp; rfl)) (by first | (go_simp; done) | (go_simp; rfl)) E1 HV1.out).mono ?_; rintro e w' ⟨rfl, rfl⟩)
    go_ret
    exact ⟨by first | (rw [HR.out]; done) | (rw [HR.out]; rfl), pa SB.out⟩
  subst h1
  go_wp2_with (go_at_call 45; refine (gfirst2 _ _ _ _ _ (by first | (go_simp; done) | (go_simp; rfl)) (by first | (go_simp; done) | (go_simp; rfl)) 0 HV1.out).mono ?_; rintro e w' ⟨rfl, rfl⟩)
  have OB := Lib.hid (OB.out.alloc (o := .cells #[.int .i64 A1p, .int .i64 A1q] 29))
  have SB := Lib.hid (pa (o := .cells #[.int .i64 A1p, .int .i64 A1q] 29) SB.out)
  generalize w1.alloc (.cells #[.int .i64 A1p, .int .i64 A1q] 29) = v at *
  as_aux_lemma =>
  rw [rounds_succ]
  have o0 := OB.out.cellAt 0 rfl
  have o1 := OB.out.cellAt 1 rfl
  have o2 := OB.out.cellAt 2 rfl
  have o3 := OB.out.cellAt 3 rfl
  have ol := OB.out.lt
  go_wp2
  refine region_below 8 follows_mixed (by kernel_rfl) ?_
  intro C hC
  simp only [List.take_succ_cons, List.take_zero, List.drop_succ_cons, List.drop_zero]
  repeat (first
    | ((with_reducible refine quiet_plain rfl (fun K hK => ?_)); (focus (apply quiet_val; (focus (intro w' hw; obtain ⟨hcq, hfq⟩ := bcell ((hC.out _).1 hw); go_simp; (first | done | rfl | (with_reducible exact call_below hC hw (HK2p.out _)) | (with_reducible exact call_below hC hw (HK2q.out _))))); (simp only [Act.put, List.setIfInBounds_toArray, List.set_cons_succ, List.set_cons_zero]); (with_reducible refine hK _ ?_); clear hK K)))
    | ((with_reducible refine quiet_skip ?_ ?_); (focus (first | (simp [Region.wanted, yielded]; done) | (simp [Region.wanted, yielded, undef]; done))); simp only [Act.put, List.setIfInBounds_toArray, List.set_cons_succ, List.set_cons_zero])
    | ((with_reducible refine quiet_go ?_ (fun K hK => ?_)); (focus (first | (simp [Region.wanted, yielded]; done) | (simp [Region.wanted, yielded, undef]; done))); (focus (apply quiet_val; (focus (intro w' hw; obtain ⟨hcq, hfq⟩ := bcell ((hC.out _).1 hw); go_simp; (first | done | rfl | (with_reducible exact call_below hC hw (HK2p.out _)) | (with_reducible exact call_below hC hw (HK2q.out _))))); (simp only [Act.put, List.setIfInBounds_toArray, List.set_cons_succ, List.set_cons_zero]); (with_reducible refine hK _ ?_); clear hK K))))
  refine wpQuiet_nil ?_
  intro w1 hb1
  replace hb1 := (hC.out _).1 hb1
  clear hC C
  obtain ⟨hc1, hf1⟩ := bcell hb1
  have OB := Lib.hid (OB.out.past hb1)
  have SB := Lib.hid (pt SB.out hb1)
  clear hb1 hc1 hf1 o0 o1 o2 o3 ol
  obtain ⟨E2, hE⟩ : ∃ E, firstV [A2p, A2q] = E := ⟨_, rfl⟩
  have HV2 := Lib.hid hE
  clear hE
  by_cases h2 : E2 = 0
  rotate_left
  · have HR := Lib.hid (show R = E2 by rw [HR0.out, fv_2 HV1.out (by rw [HV2.out]; exact h2), HV2.out])
    have eb : (E2 != 0) = true := by simpa using h2
    go_wp2_with (go_at_call 45; refine (gfirst2 _ _ _ _ _ (by first | (go_simp; done) | (go_simp; rfl)) (by first | (go_simp; done) | (go_simp; rfl)) E2 HV2.out).mono ?_; rintro e w' ⟨rfl, rfl⟩)
    go_ret
    exact ⟨by first | (rw [HR.out]; done) | (rw [HR.out]; rfl), pa SB.out⟩
  subst h2
  go_wp2_with (go_at_call 45; refine (gfirst2 _ _ _ _ _ (by first | (go_simp; done) | (go_simp; rfl)) (by first | (go_simp; done) | (go_simp; rfl)) 0 HV2.out).mono ?_; rintro e w' ⟨rfl, rfl⟩)
  have OB := Lib.hid (OB.out.alloc (o := .cells #[.int .i64 A2p, .int .i64 A2q] 29))
  have SB := Lib.hid (pa (o := .cells #[.int .i64 A2p, .int .i64 A2q] 29) SB.out)
  generalize w1.alloc (.cells #[.int .i64 A2p, .int .i64 A2q] 29) = v at *
  as_aux_lemma =>
  rw [rounds_succ]
  go_wp2_with (go_at_call 41; refine (parts_any _).mono ?_; rintro e w2 ⟨rfl, hb2⟩)
  have OB := Lib.hid (OB.out.past hb2)
  have SB := Lib.hid (pt SB.out hb2)
  clear hb2
  have hcu := HFr.out HV1.out HV2.out
  have hcz := HZ.out hcu
  obtain ⟨okI, ok0⟩ := HOk.out
  have HIp := Lib.hid (fun w => busBy_any sp sq sn sd sp pn pd okI okI.1 hcu.1 w)
  have HIq := Lib.hid (fun w => busBy_any sp sq sn sd sq qn qd okI okI.2.1 hcu.2 w)
  have HZp := Lib.hid (fun w => busBy_any tp tq tn td tp zpn zpd ok0 ok0.1 hcz.1 w)
  have HZq := Lib.hid (fun w => busBy_any tp tq tn td tq zqn zqd ok0 ok0.2.1 hcz.2 w)
  clear hcu hcz okI ok0 HFr HZ HOk HK1p HK1q HK2p HK2q
  have HEp := Lib.hid (bus_parts (x := busF sp ⟨sp, sq, sn, sd⟩ pn pd) (y := busF tp ⟨tp, tq, tn, td⟩ zpn zpd))
  have HNp := Lib.hid (bus_other (x := busF sp ⟨sp, sq, sn, sd⟩ pn pd) (y := busF tp ⟨tp, tq, tn, td⟩ zpn zpd))
  generalize busF sp ⟨sp, sq, sn, sd⟩ pn pd = rSp at *
  generalize busF tp ⟨tp, tq, tn, td⟩ zpn zpd = rTp at *
  generalize rSp.num = xnp at *
  generalize (rSp.den : Int) = xdp at *
  generalize rTp.num = ynp at *
  generalize (rTp.den : Int) = ydp at *
  have HEq := Lib.hid (bus_parts (x := busF sq ⟨sp, sq, sn, sd⟩ qn qd) (y := busF tq ⟨tp, tq, tn, td⟩ zqn zqd))
  have HNq := Lib.hid (bus_other (x := busF sq ⟨sp, sq, sn, sd⟩ qn qd) (y := busF tq ⟨tp, tq, tn, td⟩ zqn zqd))
  generalize busF sq ⟨sp, sq, sn, sd⟩ qn qd = rSq at *
  generalize busF tq ⟨tp, tq, tn, td⟩ zqn zqd = rTq at *
  generalize rSq.num = xnq at *
  generalize (rSq.den : Int) = xdq at *
  generalize rTq.num = ynq at *
  generalize (rTq.den : Int) = ydq at *
  obtain ⟨v, rfl⟩ : ∃ v, v = w2 := ⟨_, rfl⟩
  refine wp_loop_rounds 3 ?_
  rw [rounds_succ]
  have PN : Blk (v.alloc (.cells #[.nilFunc, .nilFunc] 108)) v.heap.size 108 #[.nilFunc, .nilFunc] := Blk.new _ _ _
  go_wp2_with ((with_reducible refine store_blk (T := 108) (x := .tmp 12) (y := .tmp 38) (vs := #[.func (.func 86) #[] #[], .func (.func 87) #[] #[]]) PN ?_ ?_ ?_ ?_ ?_ ?_); (focus rfl); (focus exact part_size); (focus (simp [Value.oneCell']; done)); (focus rfl); (focus rfl); intro v3 P1 PP)
  have OB := Lib.hid (OB.out.alloc.put PP (Nat.ne_of_lt OB.out.lt))
  have SB := Lib.hid (pp (pa SB.out) PP SB.out.size)
  generalize v.heap.size = pb at *
  clear PN PP
  as_aux_lemma =>
  have pf0 := P1.cellAt 0 rfl
  have pf1 := P1.cellAt 1 rfl
  have pl := P1.lt
  have o0 := OB.out.cellAt 0 rfl
  have o1 := OB.out.cellAt 1 rfl
  have o2 := OB.out.cellAt 2 rfl
  have o3 := OB.out.cellAt 3 rfl
  have ol := OB.out.lt
  obtain ⟨⟨y0, y1, y2, y3, yl⟩, ⟨z0, z1, z2, z3, zl⟩, ⟨c0, c1, c2, c3, cl⟩⟩ := HCells.out _ SB.out
  refine region_below 36 follows_mixed (by kernel_rfl) ?_
  intro C hC
  simp only [List.take_succ_cons, List.take_zero, List.drop_succ_cons, List.drop_zero]
  repeat (first
    | ((with_reducible refine quiet_plain rfl (fun K hK => ?_)); (focus (apply quiet_val; (focus (intro w' hw; obtain ⟨hcq, hfq⟩ := bcell ((hC.out _).1 hw); go_simp; (first | done | rfl | (with_reducible exact call_below hC hw (part_1 _ _ _)) | (with_reducible exact call_same hw (part_2 _ _ _)) | (with_reducible exact call_below hC hw (HIp.out _)) | (with_reducible exact call_below hC hw (HZp.out _))))); (simp only [Act.put, List.setIfInBounds_toArray, List.set_cons_succ, List.set_cons_zero]); (with_reducible refine hK _ ?_); clear hK K)))
    | ((with_reducible refine quiet_skip ?_ ?_); (focus (first | (simp [Region.wanted, yielded]; done) | (simp [Region.wanted, yielded, undef]; done))); simp only [Act.put, List.setIfInBounds_toArray, List.set_cons_succ, List.set_cons_zero])
    | ((with_reducible refine quiet_go ?_ (fun K hK => ?_)); (focus (first | (simp [Region.wanted, yielded]; done) | (simp [Region.wanted, yielded, undef]; done))); (focus (apply quiet_val; (focus (intro w' hw; obtain ⟨hcq, hfq⟩ := bcell ((hC.out _).1 hw); go_simp; (first | done | rfl | (with_reducible exact call_below hC hw (part_1 _ _ _)) | (with_reducible exact call_same hw (part_2 _ _ _)) | (with_reducible exact call_below hC hw (HIp.out _)) | (with_reducible exact call_below hC hw (HZp.out _))))); (simp only [Act.put, List.setIfInBounds_toArray, List.set_cons_succ, List.set_cons_zero]); (with_reducible refine hK _ ?_); clear hK K))))
  refine wpQuiet_nil ?_
  intro w1 hb1
  replace hb1 := (hC.out _).1 hb1
  clear hC C
  obtain ⟨hc1, hf1⟩ := bcell hb1
  have OB := Lib.hid (OB.out.past hb1)
  have SB := Lib.hid (pt SB.out hb1)
  clear hb1 hc1 hf1 pf0 pf1 pl o0 o1 o2 o3 ol y0 y1 y2 y3 yl z0 z1 z2 z3 zl c0 c1 c2 c3 cl P1
  by_cases h3 : rSp = rTp
  rotate_left
  · have HR := Lib.hid (show R = 19 by rw [HR0.out, fv_3 HV1.out HV2.out (by rw [if_neg h3]; decide), if_neg h3])
    rcases HNp.out h3 with hne | hne
    · have hnb : (xnp == ynp) = false := beq_eq_false_iff_ne.2 hne
      go_wp2
      go_ret
      exact ⟨by first | (rw [HR.out]; done) | (rw [HR.out]; rfl), SB.out⟩
    · have hnb : (xdp == ydp) = false := beq_eq_false_iff_ne.2 hne
      go_wp2
      go_ret
      exact ⟨by first | (rw [HR.out]; done) | (rw [HR.out]; rfl), SB.out⟩
  obtain ⟨g1, g2⟩ := HEp.out h3
  have HPe := Lib.hid h3
  clear h3 HEp HNp HIp HZp
  subst g1 g2
  go_wp2
  obtain ⟨v, rfl⟩ : ∃ v, v = w1 := ⟨_, rfl⟩
  rw [rounds_succ]
  have PN : Blk (v.alloc (.cells #[.nilFunc, .nilFunc] 108)) v.heap.size 108 #[.nilFunc, .nilFunc] := Blk.new _ _ _
  go_wp2_with ((with_reducible refine store_blk (T := 108) (x := .tmp 12) (y := .tmp 38) (vs := #[.func (.func 88) #[] #[], .func (.func 89) #[] #[]]) PN ?_ ?_ ?_ ?_ ?_ ?_); (focus rfl); (focus exact part_size); (focus (simp [Value.oneCell']; done)); (focus rfl); (focus rfl); intro v3 P1 PP)
  have OB := Lib.hid (OB.out.alloc.put PP (Nat.ne_of_lt OB.out.lt))
  have SB := Lib.hid (pp (pa SB.out) PP SB.out.size)
  generalize v.heap.size = pb at *
  clear PN PP
  as_aux_lemma =>
  have pf0 := P1.cellAt 0 rfl
  have pf1 := P1.cellAt 1 rfl
  have pl := P1.lt
  have o0 := OB.out.cellAt 0 rfl
  have o1 := OB.out.cellAt 1 rfl
  have o2 := OB.out.cellAt 2 rfl
  have o3 := OB.out.cellAt 3 rfl
  have ol := OB.out.lt
  obtain ⟨⟨y0, y1, y2, y3, yl⟩, ⟨z0, z1, z2, z3, zl⟩, ⟨c0, c1, c2, c3, cl⟩⟩ := HCells.out _ SB.out
  refine region_below 36 follows_mixed (by kernel_rfl) ?_
  intro C hC
  simp only [List.take_succ_cons, List.take_zero, List.drop_succ_cons, List.drop_zero]
  repeat (first
    | ((with_reducible refine quiet_plain rfl (fun K hK => ?_)); (focus (apply quiet_val; (focus (intro w' hw; obtain ⟨hcq, hfq⟩ := bcell ((hC.out _).1 hw); go_simp; (first | done | rfl | (with_reducible exact call_below hC hw (part_3 _ _ _)) | (with_reducible exact call_same hw (part_4 _ _ _)) | (with_reducible exact call_below hC hw (HIq.out _)) | (with_reducible exact call_below hC hw (HZq.out _))))); (simp only [Act.put, List.setIfInBounds_toArray, List.set_cons_succ, List.set_cons_zero]); (with_reducible refine hK _ ?_); clear hK K)))
    | ((with_reducible refine quiet_skip ?_ ?_); (focus (first | (simp [Region.wanted, yielded]; done) | (simp [Region.wanted, yielded, undef]; done))); simp only [Act.put, List.setIfInBounds_toArray, List.set_cons_succ, List.set_cons_zero])
    | ((with_reducible refine quiet_go ?_ (fun K hK => ?_)); (focus (first | (simp [Region.wanted, yielded]; done) | (simp [Region.wanted, yielded, undef]; done))); (focus (apply quiet_val; (focus (intro w' hw; obtain ⟨hcq, hfq⟩ := bcell ((hC.out _).1 hw); go_simp; (first | done | rfl | (with_reducible exact call_below hC hw (part_3 _ _ _)) | (with_reducible exact call_same hw (part_4 _ _ _)) | (with_reducible exact call_below hC hw (HIq.out _)) | (with_reducible exact call_below hC hw (HZq.out _))))); (simp only [Act.put, List.setIfInBounds_toArray, List.set_cons_succ, List.set_cons_zero]); (with_reducible refine hK _ ?_); clear hK K))))
  refine wpQuiet_nil ?_
  intro w1 hb1
  replace hb1 := (hC.out _).1 hb1
  clear hC C
  obtain ⟨hc1, hf1⟩ := bcell hb1
  have OB := Lib.hid (OB.out.past hb1)
  have SB := Lib.hid (pt SB.out hb1)
  clear hb1 hc1 hf1 pf0 pf1 pl o0 o1 o2 o3 ol y0 y1 y2 y3 yl z0 z1 z2 z3 zl c0 c1 c2 c3 cl P1
  by_cases h3 : rSq = rTq
  rotate_left
  · have HR := Lib.hid (show R = 19 by rw [HR0.out, fv_4 HV1.out HV2.out (if_pos HPe.out), if_neg h3])
    rcases HNq.out h3 with hne | hne
    · have hnb : (xnq == ynq) = false := beq_eq_false_iff_ne.2 hne
      go_wp2
      go_ret
      exact ⟨by first | (rw [HR.out]; done) | (rw [HR.out]; rfl), SB.out⟩
    · have hnb : (xdq == ydq) = false := beq_eq_false_iff_ne.2 hne
      go_wp2
      go_ret
      exact ⟨by first | (rw [HR.out]; done) | (rw [HR.out]; rfl), SB.out⟩
  obtain ⟨g1, g2⟩ := HEq.out h3
  have HR := Lib.hid (show R = 0 by rw [HR0.out, fv_4 HV1.out HV2.out (if_pos HPe.out), if_pos h3])
  clear h3 HEq HNq HIq HZq
  subst g1 g2
  go_wp2
  obtain ⟨v, rfl⟩ : ∃ v, v = w1 := ⟨_, rfl⟩
  rw [rounds_succ]
  go_wp2
  go_ret
  exact ⟨by first | (rw [HR.out]; done) | (rw [HR.out]; rfl), SB.out⟩

end Go.Proofs.YtpdkbhjcpddnpaaGreatDoor
end

section
namespace Go.Proofs.YtpdkbhjcpddnpaaGreatDoor
open Go.RowKit
attribute [local go_sem ↓] Go.wp_at_zero Go.wp_at_succ
attribute [local go_sem] pp_at0 pp_at1

theorem partB_2 (b o : Nat) (w : World) : Calls Tryz.prog 87 #[.pointer (some ⟨b, o, none⟩)] w fun e w' => e = .returned (.pointer (some ⟨b, o + 0, none⟩)) ∧ Below w.heap.size w w' := (part_2 b o w).mono fun _e _w' h => ⟨h.1, h.2 ▸ pr⟩
theorem partB_4 (b o : Nat) (w : World) : Calls Tryz.prog 89 #[.pointer (some ⟨b, o, none⟩)] w fun e w' => e = .returned (.pointer (some ⟨b, o + 2, none⟩)) ∧ Below w.heap.size w w' := (part_4 b o w).mono fun _e _w' h => ⟨h.1, h.2 ▸ pr⟩
theorem busF_bds {s : Src} (hs : SrcOk s) {v n d : Int} (hv : -1000000 ≤ v ∧ v ≤ 1000000) (hf : FrOk n d) :
    (-200000000000000000 ≤ (busF v s n d).num ∧ (busF v s n d).num ≤ 200000000000000000) ∧ 0 ≤ ((busF v s n d).den : Int) ∧ ((busF v s n d).den : Int) ≤ 100000000000 := by
  obtain ⟨b1, _, _, b4⟩ := by_bds hs hv hf
  have l := lo_rat (busN v s n d) (show 0 < busD s d by omega)
  have h1 := tdiv_sm (a := busN v s n d) (b := gcdI (busN v s n d) (busD s d)) (m := 200000000000000000) b4 (by decide)
  have h2 := tdiv_sm (a := busD s d) (b := gcdI (busN v s n d) (busD s d)) (m := 100000000000) (by unfold Sm; omega) (by decide)
  rw [show (busN v s n d).tdiv (gcdI (busN v s n d) (busD s d)) = (busF v s n d).num from l.1] at h1
  rw [show (busD s d).tdiv (gcdI (busN v s n d) (busD s d)) = ((busF v s n d).den : Int) from l.2] at h2
  unfold Sm at h1 h2
  have := (busF v s n d).den_nz
  omega
theorem scan_at {E : Nat → Int} {n i : Nat} (h : i < n) : scanC E (n - i) i = if E i = 0 then scanC E (n - (i + 1)) (i + 1) else (i, E i) := by
  obtain ⟨k, rfl⟩ : ∃ k, n = i + (k + 1) := ⟨n - i - 1, by omega⟩
  rw [show i + (k + 1) - i = k + 1 by omega, show i + (k + 1) - (i + 1) = k by omega, scanC]
theorem fv2_1 {a b : Int} (h : a ≠ 0) : firstV [a, b] = a := by simp [firstV, h]
theorem fv2_2 {b : Int} : firstV [0, b] = b := by simp [firstV]; intro h; exact h.symm
theorem cross_all {ls : List Src} {f : Src → Int} {load n d : Int} {x y : Int} (hx : (busF (f (ls.getD 0 default)) (ls.getD 0 default) n d).num = x) (hy : ((busF (f (ls.getD 0 default)) (ls.getD 0 default) n d).den : Int) = y) :
    crossB ls f load n d = decide (x * sumI ls ls.length = dropI ls f load ls.length * y) := by
  unfold crossB sumI dropI
  rw [hx, hy, List.take_length]
theorem check_err {ls : List Src} {p q : Int} {cs : List Cu} (h : loadE ls p q ≠ 0) : checkV ls p q cs = (0, loadE ls p q) := by
  unfold checkV
  rw [fv2_1 h, if_neg h]
theorem check_len {ls : List Src} {p q : Int} {cs : List Cu} (h : loadE ls p q = 0) (hl : cs.length ≠ ls.length) : checkV ls p q cs = (0, 10) := by
  unfold checkV
  rw [h, fv2_2, decide_eq_false hl]
  rfl
theorem check_ok {ls : List Src} {p q : Int} {cs : List Cu} (h : loadE ls p q = 0) (hl : cs.length = ls.length) : checkV ls p q cs = checkC ls p q cs := by
  unfold checkV
  rw [h, fv2_2, decide_eq_true hl]
  rfl
theorem checkC_scan {ls : List Src} {p q : Int} {cs : List Cu} (h : (scanC (curEs ls cs) cs.length 0).2 ≠ 0) : checkC ls p q cs = scanC (curEs ls cs) cs.length 0 := by
  unfold checkC
  rw [if_neg h]
theorem checkC_open {ls : List Src} {p q : Int} {cs : List Cu} (h : (scanC (curEs ls cs) cs.length 0).2 = 0) (b : Bool) (hb : openB ls p q (cs.getD 0 default) = b) : checkC ls p q cs = if b = true then (0, 0) else (0, 21) := by
  unfold checkC
  rw [if_pos h, hb]

set_option maxHeartbeats 4000000 in
set_option maxRecDepth 100000 in
theorem CheckCurrents_err (B : Nat) (ls : List Src) (A : Option Addr) (c : Nat) (cs : List Cu) (A2 : Option Addr) (c2 : Nat) (p q : Int) (w : World) (hr : SrcsIn B w A ls) (hB : B ≤ w.heap.size) (h64 : ∀ s ∈ ls, Src64 s) (h0 : loadE ls p q ≠ 0) :
    Calls Tryz.prog 9 #[.slice A ls.length c, .agg #[.int .i64 p, .int .i64 q], .slice A2 cs.length c2] w fun r w' => r = .returned (.tuple #[.int .i64 0, .int .i64 (loadE ls p q)]) ∧ Below w.heap.size w w' := by
  have HE := Lib.hid (fun W (hb : Below w.heap.size w W) => sourcesErr_any W.heap.size ls A c p q W (((hr.more hB).below hb).more hb.size) (Nat.le_refl _) h64)
  have e1 : (loadE ls p q != 0) = true := by simpa using h0
  have e2 : ¬ loadE ls p q = 0 := h0
  have HF := Lib.hid (fun y => fv2_1 (b := y) h0)
  clear hr hB h64 h0
  generalize loadE ls p q = E at *
  generalize ls.length = n at *
  generalize cs.length = m at *
  go_enter Tryz.func9, Tryz.ntmps9
  go_wp2_with (first
    | (go_at_call 40; (with_reducible refine (HE.out _ (pa pr)).mono ?_); rintro e w1 ⟨rfl, hb1⟩)
    | (go_at_call 46; (with_reducible refine (unless_any _ _ _).mono ?_); rintro e w' ⟨rfl, rfl⟩)
    | (go_at_call 45; refine (gfirst2 _ _ _ _ _ (by first | (go_simp; done) | (go_simp; rfl)) (by first | (go_simp; done) | (go_simp; rfl)) E (HF.out _)).mono ?_; rintro e w' ⟨rfl, rfl⟩))
  go_ret2
  exact ⟨rfl, pa (pt (pa pr) hb1)⟩

set_option maxHeartbeats 4000000 in
set_option maxRecDepth 100000 in
theorem CheckCurrents_len (B : Nat) (ls : List Src) (A : Option Addr) (c : Nat) (cs : List Cu) (A2 : Option Addr) (c2 : Nat) (p q : Int) (w : World) (hr : SrcsIn B w A ls) (hB : B ≤ w.heap.size) (h64 : ∀ s ∈ ls, Src64 s) (h0 : loadE ls p q = 0) (hl : cs.length ≠ ls.length) :
    Calls Tryz.prog 9 #[.slice A ls.length c, .agg #[.int .i64 p, .int .i64 q], .slice A2 cs.length c2] w fun r w' => r = .returned (.tuple #[.int .i64 0, .int .i64 10]) ∧ Below w.heap.size w w' := by
  have HE := Lib.hid (fun W (hb : Below w.heap.size w W) => sourcesErr_any W.heap.size ls A c p q W (((hr.more hB).below hb).more hb.size) (Nat.le_refl _) h64)
  rw [h0] at HE
  clear hr hB h64 h0
  generalize ls.length = n at *
  generalize cs.length = m at *
  have e1 : ((m : Int) == (n : Int)) = false := beq_eq_false_iff_ne.2 (by omega)
  have e2 : ¬ (m : Int) = (n : Int) := by omega
  go_enter Tryz.func9, Tryz.ntmps9
  go_wp2_with (first
    | (go_at_call 40; (with_reducible refine (HE.out _ (pa pr)).mono ?_); rintro e w1 ⟨rfl, hb1⟩)
    | (go_at_call 46; (with_reducible refine (un_f _ _).mono ?_); rintro e w' ⟨rfl, rfl⟩)
    | (go_at_call 45; refine (gfirst2 _ _ _ _ _ (by first | (go_simp; done) | (go_simp; rfl)) (by first | (go_simp; done) | (go_simp; rfl)) 10 rfl).mono ?_; rintro e w' ⟨rfl, rfl⟩))
  go_ret2
  exact ⟨rfl, pa (pt (pa pr) hb1)⟩

set_option maxHeartbeats 16000000 in
set_option maxRecDepth 100000 in
theorem CheckCurrents_ok (B : Nat) (ls : List Src) (A : Option Addr) (c : Nat) (cs : List Cu) (A2 : Option Addr) (c2 : Nat) (p q : Int) (w : World) (hr : SrcsIn B w A ls) (hr2 : CusIn B w A2 cs) (hB : B ≤ w.heap.size) (h64 : ∀ s ∈ ls, Src64 s) (h64c : ∀ s ∈ cs, Cu64 s) (h0 : loadE ls p q = 0) (hl : cs.length = ls.length) :
    Calls Tryz.prog 9 #[.slice A ls.length c, .agg #[.int .i64 p, .int .i64 q], .slice A2 cs.length c2] w fun r w' => r = .returned (.tuple #[.int .i64 (checkC ls p q cs).1, .int .i64 (checkC ls p q cs).2]) ∧ Below w.heap.size w w' := by
  have HE := Lib.hid (fun W (hb : Below w.heap.size w W) => sourcesErr_any W.heap.size ls A c p q W (((hr.more hB).below hb).more hb.size) (Nat.le_refl _) h64)
  rw [h0] at HE
  obtain ⟨hok, hp, hq⟩ := loadE_ok h0
  have HCE := Lib.hid (show ∀ W i, Below w.heap.size w W → i < ls.length → (∀ j, j < i → curEs ls cs j = 0) → Calls Tryz.prog 47 #[.slice A ls.length c, .slice A2 ls.length c2, .int .i64 (i : Int)] W fun r w' => r = .returned (.int .i64 (curEs ls cs i)) ∧ Below W.heap.size W w' from fun W i hW hi hz => by
    have q := currentErr_any W.heap.size ls A c cs A2 c2 i W (((hr.more hB).below hW).more hW.size) (((hr2.more hB).below hW).more hW.size) (Nat.le_refl _) hi hl hok h64c (by
      rcases Nat.eq_zero_or_pos i with h | h
      · exact .inl h
      · exact .inr (curE_ok (hz 0 h)).1)
    rw [hl] at q
    exact q)
  have HBp := Lib.hid (fun W (hb : Below w.heap.size w W) => busOf_Pany W.heap.size ls A c p W (((hr.more hB).below hb).more hb.size) (Nat.le_refl _) hok hp)
  have HBq := Lib.hid (fun W (hb : Below w.heap.size w W) => busOf_Qany W.heap.size ls A c q W (((hr.more hB).below hb).more hb.size) (Nat.le_refl _) hok hq)
  have hn := hok.1.1
  have hok0 := hok.at_ hn
  have HB0 := Lib.hid (show curEs ls cs 0 = 0 → CuOk (cs.getD 0 default) from fun h => (curE_ok h).1)
  have HDp := Lib.hid (dropI_bd hok (src_p hok) hp ls.length)
  have HDq := Lib.hid (dropI_bd hok (src_q hok) hq ls.length)
  have HSu := Lib.hid (sumI_bd hok ls.length)
  have HL4 := Lib.hid hok.1.2
  obtain ⟨b, off, hA, hb, hct⟩ := hr.at_ hn
  subst hA
  obtain ⟨b2, off2, hA2, hb2, hct2⟩ := hr2.at_ (k := 0) (by rw [hl]; exact hn)
  subst hA2
  have hS0 := hct 0 hn
  have hC0 := hct2 0 (by rw [hl]; exact hn)
  have hbw : b < w.heap.size := Nat.lt_of_lt_of_le hb hB
  have hb2w : b2 < w.heap.size := Nat.lt_of_lt_of_le hb2 hB
  rw [Nat.zero_mul, Nat.add_zero] at hS0 hC0
  rw [hl]
  have HScan := Lib.hid (fun i (hi : i < ls.length) => scan_at (E := curEs ls cs) hi)
  have HChk := Lib.hid (show (scanC (curEs ls cs) ls.length 0).2 ≠ 0 → checkC ls p q cs = scanC (curEs ls cs) ls.length 0 from fun h => by rw [← hl] at h ⊢; exact checkC_scan h)
  have HOpn := Lib.hid (show (scanC (curEs ls cs) ls.length 0).2 = 0 → ∀ b, (crossB ls Src.p p (cs.getD 0 default).pn (cs.getD 0 default).pd && crossB ls Src.q q (cs.getD 0 default).qn (cs.getD 0 default).qd) = b → checkC ls p q cs = if b = true then (0, 0) else (0, 21) from fun h b hb => by rw [← hl] at h; exact checkC_open h b hb)
  have HCrP := Lib.hid (fun (x y : Int) => cross_all (ls := ls) (f := Src.p) (load := p) (n := (cs.getD 0 default).pn) (d := (cs.getD 0 default).pd) (x := x) (y := y))
  have HCrQ := Lib.hid (fun (x y : Int) => cross_all (ls := ls) (f := Src.q) (load := q) (n := (cs.getD 0 default).qn) (d := (cs.getD 0 default).qd) (x := x) (y := y))
  clear hct hct2 hr hr2 h64 h64c hok hl h0 hp hq
  generalize ls.getD 0 default = t at *
  generalize cs.getD 0 default = cz at *
  obtain ⟨tp, tq, tn, td⟩ := t
  obtain ⟨zpn, zpd, zqn, zqd⟩ := cz
  dsimp only at hS0 hC0 HCrP HCrQ HOpn
  have HCells := Lib.hid (show ∀ W, Below w.heap.size w W → (W.cell? ⟨b, off, none⟩ = some (.int .i64 tp) ∧ W.cell? ⟨b, off + 1, none⟩ = some (.int .i64 tq) ∧ W.cell? ⟨b, off + 2, none⟩ = some (.int .i64 tn) ∧ W.cell? ⟨b, off + 3, none⟩ = some (.int .i64 td) ∧ b < W.heap.size) ∧
      (W.cell? ⟨b2, off2, none⟩ = some (.int .i64 zpn) ∧ W.cell? ⟨b2, off2 + 1, none⟩ = some (.int .i64 zpd) ∧ W.cell? ⟨b2, off2 + 2, none⟩ = some (.int .i64 zqn) ∧ W.cell? ⟨b2, off2 + 3, none⟩ = some (.int .i64 zqd) ∧ b2 < W.heap.size) from fun W hW =>
    ⟨⟨((bcell hW).1 _ _ hbw).trans hS0.1, ((bcell hW).1 _ _ hbw).trans hS0.2.1, ((bcell hW).1 _ _ hbw).trans hS0.2.2.1, ((bcell hW).1 _ _ hbw).trans hS0.2.2.2, Nat.lt_of_lt_of_le hbw hW.size⟩,
     ⟨((bcell hW).1 _ _ hb2w).trans hC0.1, ((bcell hW).1 _ _ hb2w).trans hC0.2.1, ((bcell hW).1 _ _ hb2w).trans hC0.2.2.1, ((bcell hW).1 _ _ hb2w).trans hC0.2.2.2, Nat.lt_of_lt_of_le hb2w hW.size⟩⟩)
  have HOk0 := Lib.hid hok0
  clear hS0 hC0 hb hb2 hbw hb2w hB hok0
  generalize curEs ls cs = E at *
  generalize checkC ls p q cs = R at *
  generalize dropI ls Src.p p ls.length = drp at *
  generalize dropI ls Src.q q ls.length = drq at *
  generalize sumI ls ls.length = sm at *
  generalize ls.length = n at *
  have hn2 : (0 : Int) < (n : Int) := src_lt hn
  go_enter Tryz.func9, Tryz.ntmps9
  go_wp2_with (first
    | (go_at_call 40; (with_reducible refine (HE.out _ (pa pr)).mono ?_); rintro e w1 ⟨rfl, hb1⟩; have L1 := Lib.hid ((Blk.newAt (w := w) (t := 24) (cs := #[.int .i64 p, .int .i64 q]) rfl).past hb1); have S1 := Lib.hid (pt (pa (pr (w := w))) hb1); clear hb1)
    | (go_at_call 46; (with_reducible refine (un_t _ _).mono ?_); rintro e w' ⟨rfl, rfl⟩)
    | (go_at_call 45; refine (gfirst2 _ _ _ _ _ (by first | (go_simp; done) | (go_simp; rfl)) (by first | (go_simp; done) | (go_simp; rfl)) 0 rfl).mono ?_; rintro e w' ⟨rfl, rfl⟩))
  have L2 := Lib.hid (L1.out.alloc (o := .cells #[.int .i64 0, .int .i64 0] 29))
  have S2 := Lib.hid (pa (o := .cells #[.int .i64 0, .int .i64 0] 29) S1.out)
  clear L1 S1
  generalize w1.alloc (.cells #[.int .i64 0, .int .i64 0] 29) = v at *
  go_loopw [31] (fun iv wr => ∃ i : Nat, iv = .int .i64 (i : Int) ∧ i ≤ n ∧ scanC E n 0 = scanC E (n - i) i ∧ (∀ j, j < i → E j = 0) ∧ Blk wr w.heap.size 24 #[.int .i64 p, .int .i64 q] ∧ Below w.heap.size w wr) (fun iv _ => n - (intOf iv).toNat)
  case atStart => exact ⟨0, rfl, Nat.zero_le _, by rw [Nat.sub_zero], fun j hj => absurd hj (Nat.not_lt_zero _), L2.out, S2.out⟩
  case round =>
    obtain ⟨i, rfl, hi, hsc, hze, hL, hS⟩ := hrel
    have HSc := Lib.hid hsc
    have HZe := Lib.hid hze
    have L := Lib.hid hL
    have S := Lib.hid hS
    have i0 := src_cast i
    clear hsc hze hL hS
    by_cases hlt : i < n
    · as_aux_lemma =>
      have i1 := src_lt hlt
      have i9 : (i : Int) ≤ 4 := by have := HL4.out; omega
      have HI := Lib.hid hlt
      have HN := Lib.hid (HScan.out i hlt)
      have HC := Lib.hid (HCE.out wr i S.out hlt HZe.out)
      obtain ⟨Ei, hEi⟩ : ∃ x, E i = x := ⟨_, rfl⟩
      rw [hEi] at HC HN
      have HEi := Lib.hid hEi
      clear hEi
      by_cases h0 : Ei = 0
      · subst h0
        rw [if_pos rfl] at HN
        go_wp2_with (go_at_call 47; (with_reducible refine HC.out.mono ?_); rintro e w2 ⟨rfl, hb2⟩)
        go_roundw
        case rel => exact ⟨i + 1, src_succ _, Nat.succ_le_of_lt HI.out, HSc.out.trans HN.out, fun j hj => (Nat.lt_succ_iff_lt_or_eq.1 hj).elim (fun h => HZe.out j h) (fun h => h ▸ HEi.out), L.out.past hb2, pt S.out hb2⟩
        case measure => exact src_meas HI.out
      · rw [if_neg h0] at HN
        have hb : (Ei != 0) = true := by simpa using h0
        have HR := Lib.hid (show R = ((i : Int), Ei) by
          have h1 := HSc.out.trans HN.out
          rw [HChk.out (by rw [h1]; exact h0), h1])
        go_wp2_with (go_at_call 47; (with_reducible refine HC.out.mono ?_); rintro e w2 ⟨rfl, hb2⟩)
        go_ret2
        exact ⟨by first | (rw [HR.out]; done) | (rw [HR.out]; rfl), pt S.out hb2⟩
    · obtain rfl : i = n := Nat.le_antisymm hi (Nat.le_of_not_lt hlt)
      as_aux_lemma =>
      have hz0 : (scanC E i 0).2 = 0 := by rw [HSc.out, Nat.sub_self]; rfl
      have HOpn := Lib.hid (HOpn.out hz0)
      have HCuOk := Lib.hid (HB0.out (HZe.out 0 hn))
      clear hz0 HSc HZe HScan HChk HCE HE
      have HBy1 := Lib.hid (fun w => busBy_any tp tq tn td tp zpn zpd HOk0.out HOk0.out.1 HCuOk.out.1 w)
      have HBy2 := Lib.hid (fun w => busBy_any tp tq tn td tq zqn zqd HOk0.out HOk0.out.2.1 HCuOk.out.2 w)
      have HBd1 := Lib.hid (busF_bds HOk0.out HOk0.out.1 HCuOk.out.1)
      have HBd2 := Lib.hid (busF_bds HOk0.out HOk0.out.2.1 HCuOk.out.2)
      have HCr1 := Lib.hid (HCrP.out _ _ rfl rfl)
      have HCr2 := Lib.hid (HCrQ.out _ _ rfl rfl)
      clear HCrP HCrQ HCuOk HOk0 HB0
      dsimp only at HBy1 HBy2 HBd1 HBd2 HCr1 HCr2
      generalize busF tp ⟨tp, tq, tn, td⟩ zpn zpd = r1 at *
      generalize busF tq ⟨tp, tq, tn, td⟩ zqn zqd = r2 at *
      generalize r1.num = fn1 at *
      generalize (r1.den : Int) = fd1 at *
      generalize r2.num = fn2 at *
      generalize (r2.den : Int) = fd2 at *
      have HEq1 := Lib.hid (fun w => equalProducts_any fn1 sm drp fd1 (by have := HBd1.out; unfold Sm; omega) (by have := HSu.out; unfold Sm; omega) (by have := HDp.out; unfold Sm; omega) (by have := HBd1.out; unfold Sm; omega) w)
      have HEq2 := Lib.hid (fun w => equalProducts_any fn2 sm drq fd2 (by have := HBd2.out; unfold Sm; omega) (by have := HSu.out; unfold Sm; omega) (by have := HDq.out; unfold Sm; omega) (by have := HBd2.out; unfold Sm; omega) w)
      rw [← HCr1.out] at HEq1
      rw [← HCr2.out] at HEq2
      clear HBd1 HBd2 HCr1 HCr2 HSu HDp HDq
      generalize crossB ls Src.p p zpn zpd = k1 at *
      generalize crossB ls Src.q q zqn zqd = k2 at *
      go_wp2_with (go_at_call 41; refine (parts_any _).mono ?_; rintro e w2 ⟨rfl, hb2⟩)
      have L := Lib.hid (L.out.past hb2)
      have S := Lib.hid (pt S.out hb2)
      clear hb2
      obtain ⟨v, rfl⟩ : ∃ v, v = w2 := ⟨_, rfl⟩
      refine wp_loop_rounds 3 ?_
      rw [rounds_succ]
      have PN : Blk (v.alloc (.cells #[.nilFunc, .nilFunc] 108)) v.heap.size 108 #[.nilFunc, .nilFunc] := Blk.new _ _ _
      go_wp2_with ((with_reducible refine store_blk (T := 108) (x := .tmp 12) (y := .tmp 46) (vs := #[.func (.func 86) #[] #[], .func (.func 87) #[] #[]]) PN ?_ ?_ ?_ ?_ ?_ ?_); (focus rfl); (focus exact part_size); (focus (simp [Value.oneCell']; done)); (focus rfl); (focus rfl); intro v3 P1 PP)
      have HLv := Lib.hid L.out.lt
      have L := Lib.hid (L.out.alloc.put PP (Nat.ne_of_lt L.out.lt))
      have S := Lib.hid (pp (pa S.out) PP S.out.size)
      have hwp : w.heap.size < v.heap.size := HLv.out
      generalize v.heap.size = pb at *
      clear PN PP
      as_aux_lemma =>
      have l0 := L.out.cellAt 0 rfl
      have l1 := L.out.cellAt 1 rfl
      have ll := L.out.lt
      have pf0 := P1.cellAt 0 rfl
      have pf1 := P1.cellAt 1 rfl
      have pl := P1.lt
      refine region_alloc (zc := (.cells #[.int .i64 0, .int .i64 0] 112)) 7 follows_mixed (by kernel_rfl) rfl (fun _ _ => by kernel_rfl) ?_
      simp only [List.take_succ_cons, List.take_zero, List.drop_succ_cons, List.drop_zero]
      repeat (first
        | ((with_reducible apply grow_plain); (focus rfl); (focus (intro w' hw; obtain ⟨hcq, hfq⟩ := bcell hw; go_simp; (first | done | rfl | (with_reducible exact (part_1 _ _ _)) | (with_reducible exact (HBp.out _ (pt S.out hw)))))); (simp only [Act.put, List.setIfInBounds_toArray, List.set_cons_succ, List.set_cons_zero]))
        | ((with_reducible apply grow_skip); (focus (first | (simp [Region.wanted, yielded]; done) | (simp [Region.wanted, yielded, undef]; done))); simp only [Act.put, List.setIfInBounds_toArray, List.set_cons_succ, List.set_cons_zero])
        | ((with_reducible apply grow_go); (focus (first | (simp [Region.wanted, yielded]; done) | (simp [Region.wanted, yielded, undef]; done))); (focus (intro w' hw; obtain ⟨hcq, hfq⟩ := bcell hw; go_simp; (first | done | rfl | (with_reducible exact (part_1 _ _ _)) | (with_reducible exact (HBp.out _ (pt S.out hw)))))); (simp only [Act.put, List.setIfInBounds_toArray, List.set_cons_succ, List.set_cons_zero])))
      refine grow_nil ?_
      intro v1 w1 hv1 hb1
      simp only [List.setIfInBounds_toArray, List.set_cons_succ, List.set_cons_zero]
      have L := Lib.hid ((L.out.past hv1).alloc.past hb1)
      have P2 := (P1.past hv1).alloc.past hb1
      have K2 := (Blk.new v1 112 #[.int .i64 0, .int .i64 0]).past hb1
      have S := Lib.hid (pt (pa (pt S.out hv1)) hb1)
      have hk : pb < v1.heap.size := (P1.past hv1).lt
      generalize v1.heap.size = kb at *
      clear hb1 hv1 l0 l1 ll pf0 pf1 pl P1
      have k0 := K2.cellAt 0 rfl
      have k1_ := K2.cellAt 1 rfl
      have f0 := K2.frozen 0
      have f1 := K2.frozen 1
      have kl := K2.lt
      go_wp2
      have L := Lib.hid (show Blk ((w1.setCell ⟨kb, 0, none⟩ (.int .i64 drp)).setCell ⟨kb, 1, none⟩ (.int .i64 sm)) w.heap.size 24 #[.int .i64 p, .int .i64 q] from (L.out.far (Nat.ne_of_lt (Nat.lt_trans hwp hk))).far (Nat.ne_of_lt (Nat.lt_trans hwp hk)))
      have P3 : Blk ((w1.setCell ⟨kb, 0, none⟩ (.int .i64 drp)).setCell ⟨kb, 1, none⟩ (.int .i64 sm)) pb 108 #[.func (.func 86) #[] #[], .func (.func 87) #[] #[]] := (P2.far (Nat.ne_of_lt hk)).far (Nat.ne_of_lt hk)
      have K3 : Blk ((w1.setCell ⟨kb, 0, none⟩ (.int .i64 drp)).setCell ⟨kb, 1, none⟩ (.int .i64 sm)) kb 112 #[.int .i64 drp, .int .i64 sm] := (K2.set_ 0 _).set_ 1 _
      have S := Lib.hid (show Below w.heap.size w ((w1.setCell ⟨kb, 0, none⟩ (.int .i64 drp)).setCell ⟨kb, 1, none⟩ (.int .i64 sm)) from ps (ps S.out (Nat.le_of_lt (Nat.lt_trans hwp hk))) (Nat.le_of_lt (Nat.lt_trans hwp hk)))
      generalize ((w1.setCell ⟨kb, 0, none⟩ (.int .i64 drp)).setCell ⟨kb, 1, none⟩ (.int .i64 sm)) = v at *
      clear k0 k1_ f0 f1 kl K2 P2
      as_aux_lemma =>
      have pf0 := P3.cellAt 0 rfl
      have pf1 := P3.cellAt 1 rfl
      have pl := P3.lt
      obtain ⟨⟨z0, z1, z2, z3, zl⟩, ⟨c0, c1, c2, c3, cl⟩⟩ := HCells.out _ S.out
      refine region_alloc (zc := (.cells #[.int .i64 0, .int .i64 0] 59)) 18 follows_mixed (by kernel_rfl) rfl (fun _ _ => by kernel_rfl) ?_
      simp only [List.take_succ_cons, List.take_zero, List.drop_succ_cons, List.drop_zero]
      repeat (first
        | ((with_reducible apply grow_plain); (focus rfl); (focus (intro w' hw; obtain ⟨hcq, hfq⟩ := bcell hw; go_simp; (first | done | rfl | (with_reducible exact (part_1 _ _ _)) | (with_reducible exact (partB_2 _ _ _)) | (with_reducible exact (HBy1.out _))))); (simp only [Act.put, List.setIfInBounds_toArray, List.set_cons_succ, List.set_cons_zero]))
        | ((with_reducible apply grow_skip); (focus (first | (simp [Region.wanted, yielded]; done) | (simp [Region.wanted, yielded, undef]; done))); simp only [Act.put, List.setIfInBounds_toArray, List.set_cons_succ, List.set_cons_zero])
        | ((with_reducible apply grow_go); (focus (first | (simp [Region.wanted, yielded]; done) | (simp [Region.wanted, yielded, undef]; done))); (focus (intro w' hw; obtain ⟨hcq, hfq⟩ := bcell hw; go_simp; (first | done | rfl | (with_reducible exact (part_1 _ _ _)) | (with_reducible exact (partB_2 _ _ _)) | (with_reducible exact (HBy1.out _))))); (simp only [Act.put, List.setIfInBounds_toArray, List.set_cons_succ, List.set_cons_zero])))
      refine grow_nil ?_
      intro v1 w1 hv1 hb1
      simp only [List.setIfInBounds_toArray, List.set_cons_succ, List.set_cons_zero]
      have L := Lib.hid ((L.out.past hv1).alloc.past hb1)
      have K4 := (K3.past hv1).alloc.past hb1
      have F4 := (Blk.new v1 59 #[.int .i64 0, .int .i64 0]).past hb1
      have S := Lib.hid (pt (pa (pt S.out hv1)) hb1)
      have hf : kb < v1.heap.size := (K3.past hv1).lt
      generalize v1.heap.size = fb at *
      clear hb1 hv1 pf0 pf1 pl z0 z1 z2 z3 zl c0 c1 c2 c3 cl P3 K3
      have k0 := K4.cellAt 0 rfl
      have k1_ := K4.cellAt 1 rfl
      have kl := K4.lt
      have f0 := F4.cellAt 0 rfl
      have f1 := F4.cellAt 1 rfl
      have g0 := F4.frozen 0
      have g1 := F4.frozen 1
      have fl := F4.lt
      have hwf := Nat.lt_trans (Nat.lt_trans hwp hk) hf
      have SW := Lib.hid (show Below w.heap.size w ((w1.setCell ⟨fb, 0, none⟩ (.int .i64 fn1)).setCell ⟨fb, 1, none⟩ (.int .i64 fd1)) from ps (ps S.out (Nat.le_of_lt hwf)) (Nat.le_of_lt hwf))
      have LW := Lib.hid (show Blk ((w1.setCell ⟨fb, 0, none⟩ (.int .i64 fn1)).setCell ⟨fb, 1, none⟩ (.int .i64 fd1)) w.heap.size 24 #[.int .i64 p, .int .i64 q] from (L.out.far (Nat.ne_of_lt hwf)).far (Nat.ne_of_lt hwf))
      have hne := Nat.ne_of_lt hf
      cases k1 with
      | false =>
        have HR := Lib.hid (show R = (0, 21) from HOpn.out false (Bool.false_and _))
        go_wp2_with (go_at_call 49; (with_reducible refine (HEq1.out _).mono ?_); rintro e w' ⟨rfl, rfl⟩)
        go_ret2
        exact ⟨by first | (rw [HR.out]; done) | (rw [HR.out]; rfl), SW.out⟩
      | true =>
        rw [Bool.true_and] at HOpn
        go_wp2_with (go_at_call 49; (with_reducible refine (HEq1.out _).mono ?_); rintro e w' ⟨rfl, rfl⟩)
        have L := Lib.hid LW.out
        have S := Lib.hid SW.out
        generalize ((w1.setCell ⟨fb, 0, none⟩ (.int .i64 fn1)).setCell ⟨fb, 1, none⟩ (.int .i64 fd1)) = v at *
        clear k0 k1_ kl f0 f1 g0 g1 fl F4 K4 LW SW hf hk hwf hne HEq1 HBy1
        rw [rounds_succ]
        have PN : Blk (v.alloc (.cells #[.nilFunc, .nilFunc] 108)) v.heap.size 108 #[.nilFunc, .nilFunc] := Blk.new _ _ _
        go_wp2_with ((with_reducible refine store_blk (T := 108) (x := .tmp 12) (y := .tmp 46) (vs := #[.func (.func 88) #[] #[], .func (.func 89) #[] #[]]) PN ?_ ?_ ?_ ?_ ?_ ?_); (focus rfl); (focus exact part_size); (focus (simp [Value.oneCell']; done)); (focus rfl); (focus rfl); intro v3 P1 PP)
        have HLv := Lib.hid L.out.lt
        have L := Lib.hid (L.out.alloc.put PP (Nat.ne_of_lt L.out.lt))
        have S := Lib.hid (pp (pa S.out) PP S.out.size)
        have hwp : w.heap.size < v.heap.size := HLv.out
        generalize v.heap.size = pb at *
        clear PN PP
        as_aux_lemma =>
        have l0 := L.out.cellAt 0 rfl
        have l1 := L.out.cellAt 1 rfl
        have ll := L.out.lt
        have pf0 := P1.cellAt 0 rfl
        have pf1 := P1.cellAt 1 rfl
        have pl := P1.lt
        refine region_alloc (zc := (.cells #[.int .i64 0, .int .i64 0] 112)) 7 follows_mixed (by kernel_rfl) rfl (fun _ _ => by kernel_rfl) ?_
        simp only [List.take_succ_cons, List.take_zero, List.drop_succ_cons, List.drop_zero]
        repeat (first
          | ((with_reducible apply grow_plain); (focus rfl); (focus (intro w' hw; obtain ⟨hcq, hfq⟩ := bcell hw; go_simp; (first | done | rfl | (with_reducible exact (part_3 _ _ _)) | (with_reducible exact (HBq.out _ (pt S.out hw)))))); (simp only [Act.put, List.setIfInBounds_toArray, List.set_cons_succ, List.set_cons_zero]))
          | ((with_reducible apply grow_skip); (focus (first | (simp [Region.wanted, yielded]; done) | (simp [Region.wanted, yielded, undef]; done))); simp only [Act.put, List.setIfInBounds_toArray, List.set_cons_succ, List.set_cons_zero])
          | ((with_reducible apply grow_go); (focus (first | (simp [Region.wanted, yielded]; done) | (simp [Region.wanted, yielded, undef]; done))); (focus (intro w' hw; obtain ⟨hcq, hfq⟩ := bcell hw; go_simp; (first | done | rfl | (with_reducible exact (part_3 _ _ _)) | (with_reducible exact (HBq.out _ (pt S.out hw)))))); (simp only [Act.put, List.setIfInBounds_toArray, List.set_cons_succ, List.set_cons_zero])))
        refine grow_nil ?_
        intro v1 w1 hv1 hb1
        simp only [List.setIfInBounds_toArray, List.set_cons_succ, List.set_cons_zero]
        have L := Lib.hid ((L.out.past hv1).alloc.past hb1)
        have P2 := (P1.past hv1).alloc.past hb1
        have K2 := (Blk.new v1 112 #[.int .i64 0, .int .i64 0]).past hb1
        have S := Lib.hid (pt (pa (pt S.out hv1)) hb1)
        have hk : pb < v1.heap.size := (P1.past hv1).lt
        generalize v1.heap.size = kb at *
        clear hb1 hv1 l0 l1 ll pf0 pf1 pl P1
        have k0 := K2.cellAt 0 rfl
        have k1_ := K2.cellAt 1 rfl
        have f0 := K2.frozen 0
        have f1 := K2.frozen 1
        have kl := K2.lt
        go_wp2
        have L := Lib.hid (show Blk ((w1.setCell ⟨kb, 0, none⟩ (.int .i64 drq)).setCell ⟨kb, 1, none⟩ (.int .i64 sm)) w.heap.size 24 #[.int .i64 p, .int .i64 q] from (L.out.far (Nat.ne_of_lt (Nat.lt_trans hwp hk))).far (Nat.ne_of_lt (Nat.lt_trans hwp hk)))
        have P3 : Blk ((w1.setCell ⟨kb, 0, none⟩ (.int .i64 drq)).setCell ⟨kb, 1, none⟩ (.int .i64 sm)) pb 108 #[.func (.func 88) #[] #[], .func (.func 89) #[] #[]] := (P2.far (Nat.ne_of_lt hk)).far (Nat.ne_of_lt hk)
        have K3 : Blk ((w1.setCell ⟨kb, 0, none⟩ (.int .i64 drq)).setCell ⟨kb, 1, none⟩ (.int .i64 sm)) kb 112 #[.int .i64 drq, .int .i64 sm] := (K2.set_ 0 _).set_ 1 _
        have S := Lib.hid (show Below w.heap.size w ((w1.setCell ⟨kb, 0, none⟩ (.int .i64 drq)).setCell ⟨kb, 1, none⟩ (.int .i64 sm)) from ps (ps S.out (Nat.le_of_lt (Nat.lt_trans hwp hk))) (Nat.le_of_lt (Nat.lt_trans hwp hk)))
        generalize ((w1.setCell ⟨kb, 0, none⟩ (.int .i64 drq)).setCell ⟨kb, 1, none⟩ (.int .i64 sm)) = v at *
        clear k0 k1_ f0 f1 kl K2 P2
        as_aux_lemma =>
        have pf0 := P3.cellAt 0 rfl
        have pf1 := P3.cellAt 1 rfl
        have pl := P3.lt
        obtain ⟨⟨z0, z1, z2, z3, zl⟩, ⟨c0, c1, c2, c3, cl⟩⟩ := HCells.out _ S.out
        refine region_alloc (zc := (.cells #[.int .i64 0, .int .i64 0] 59)) 18 follows_mixed (by kernel_rfl) rfl (fun _ _ => by kernel_rfl) ?_
        simp only [List.take_succ_cons, List.take_zero, List.drop_succ_cons, List.drop_zero]
        repeat (first
          | ((with_reducible apply grow_plain); (focus rfl); (focus (intro w' hw; obtain ⟨hcq, hfq⟩ := bcell hw; go_simp; (first | done | rfl | (with_reducible exact (part_3 _ _ _)) | (with_reducible exact (partB_4 _ _ _)) | (with_reducible exact (HBy2.out _))))); (simp only [Act.put, List.setIfInBounds_toArray, List.set_cons_succ, List.set_cons_zero]))
          | ((with_reducible apply grow_skip); (focus (first | (simp [Region.wanted, yielded]; done) | (simp [Region.wanted, yielded, undef]; done))); simp only [Act.put, List.setIfInBounds_toArray, List.set_cons_succ, List.set_cons_zero])
          | ((with_reducible apply grow_go); (focus (first | (simp [Region.wanted, yielded]; done) | (simp [Region.wanted, yielded, undef]; done))); (focus (intro w' hw; obtain ⟨hcq, hfq⟩ := bcell hw; go_simp; (first | done | rfl | (with_reducible exact (part_3 _ _ _)) | (with_reducible exact (partB_4 _ _ _)) | (with_reducible exact (HBy2.out _))))); (simp only [Act.put, List.setIfInBounds_toArray, List.set_cons_succ, List.set_cons_zero])))
        refine grow_nil ?_
        intro v1 w1 hv1 hb1
        simp only [List.setIfInBounds_toArray, List.set_cons_succ, List.set_cons_zero]
        have L := Lib.hid ((L.out.past hv1).alloc.past hb1)
        have K4 := (K3.past hv1).alloc.past hb1
        have F4 := (Blk.new v1 59 #[.int .i64 0, .int .i64 0]).past hb1
        have S := Lib.hid (pt (pa (pt S.out hv1)) hb1)
        have hf : kb < v1.heap.size := (K3.past hv1).lt
        generalize v1.heap.size = fb at *
        clear hb1 hv1 pf0 pf1 pl z0 z1 z2 z3 zl c0 c1 c2 c3 cl P3 K3
        have k0 := K4.cellAt 0 rfl
        have k1_ := K4.cellAt 1 rfl
        have kl := K4.lt
        have f0 := F4.cellAt 0 rfl
        have f1 := F4.cellAt 1 rfl
        have g0 := F4.frozen 0
        have g1 := F4.frozen 1
        have fl := F4.lt
        have hwf := Nat.lt_trans (Nat.lt_trans hwp hk) hf
        have SW := Lib.hid (show Below w.heap.size w ((w1.setCell ⟨fb, 0, none⟩ (.int .i64 fn2)).setCell ⟨fb, 1, none⟩ (.int .i64 fd2)) from ps (ps S.out (Nat.le_of_lt hwf)) (Nat.le_of_lt hwf))
        have LW := Lib.hid (show Blk ((w1.setCell ⟨fb, 0, none⟩ (.int .i64 fn2)).setCell ⟨fb, 1, none⟩ (.int .i64 fd2)) w.heap.size 24 #[.int .i64 p, .int .i64 q] from (L.out.far (Nat.ne_of_lt hwf)).far (Nat.ne_of_lt hwf))
        have hne := Nat.ne_of_lt hf
        cases k2 with
        | false =>
          have HR := Lib.hid (show R = (0, 21) from HOpn.out false rfl)
          go_wp2_with (go_at_call 49; (with_reducible refine (HEq2.out _).mono ?_); rintro e w' ⟨rfl, rfl⟩)
          go_ret2
          exact ⟨by first | (rw [HR.out]; done) | (rw [HR.out]; rfl), SW.out⟩
        | true =>
          go_wp2_with (go_at_call 49; (with_reducible refine (HEq2.out _).mono ?_); rintro e w' ⟨rfl, rfl⟩)
          have L := Lib.hid LW.out
          have S := Lib.hid SW.out
          generalize ((w1.setCell ⟨fb, 0, none⟩ (.int .i64 fn2)).setCell ⟨fb, 1, none⟩ (.int .i64 fd2)) = v at *
          clear k0 k1_ kl f0 f1 g0 g1 fl F4 K4 LW SW hf hk hwf hne HEq2 HBy2
          have HR := Lib.hid (show R = (0, 0) from HOpn.out true rfl)
          rw [rounds_succ]
          go_wp2
          go_ret2
          exact ⟨by first | (rw [HR.out]; done) | (rw [HR.out]; rfl), S.out⟩

theorem CheckCurrents_any (B : Nat) (ls : List Src) (A : Option Addr) (c : Nat) (cs : List Cu) (A2 : Option Addr) (c2 : Nat) (p q : Int) (w : World) (hr : SrcsIn B w A ls) (hr2 : CusIn B w A2 cs) (hB : B ≤ w.heap.size) (h64 : ∀ s ∈ ls, Src64 s) (h64c : ∀ s ∈ cs, Cu64 s) :
    Calls Tryz.prog 9 #[.slice A ls.length c, .agg #[.int .i64 p, .int .i64 q], .slice A2 cs.length c2] w fun r w' => r = .returned (.tuple #[.int .i64 (checkV ls p q cs).1, .int .i64 (checkV ls p q cs).2]) ∧ Below w.heap.size w w' := by
  by_cases h0 : loadE ls p q = 0
  · by_cases hl : cs.length = ls.length
    · rw [check_ok h0 hl]
      exact CheckCurrents_ok B ls A c cs A2 c2 p q w hr hr2 hB h64 h64c h0 hl
    · rw [check_len h0 hl]
      exact CheckCurrents_len B ls A c cs A2 c2 p q w hr hB h64 h0 hl
  · rw [check_err h0]
    exact CheckCurrents_err B ls A c cs A2 c2 p q w hr hB h64 h0

end Go.Proofs.YtpdkbhjcpddnpaaGreatDoor
end

section
namespace Go.Proofs.YtpdkbhjcpddnpaaGreatDoor
open Go.RowKit

theorem neg_nm (x : Rat) : (-x).num = -x.num := rfl
theorem neg_dn (x : Rat) : (-x).den = x.den := rfl
theorem neg_self (x : Rat) : Rat.divInt (-x.num) (x.den : Int) = -x := by
  have h := rat_self (-x)
  rw [neg_nm, neg_dn] at h
  exact h
theorem neg_lowest (x : Rat) : lowestB (-x.num) (x.den : Int) = true := by
  have h := rat_lowest (-x)
  rw [neg_nm, neg_dn] at h
  exact h
theorem src_imp (s : Src) : (s.n : Rat) / (s.d : Rat) = Rat.divInt s.n s.d := (Rat.divInt_eq_div _ _).symm
/-- Without a load: the currents are opposite to each other, and the difference of the voltages drops over both impedances. -/
theorem par_cur0 {s t : Src} (hok : SrcsOk [s, t]) (hs : allSmall [s, t] 0 0) : ∃ xn xd yn yd : Int, curCs [s, t] 0 0 = [⟨-xn, xd, -yn, yd⟩, ⟨xn, xd, yn, yd⟩] ∧ ((-1000000000 ≤ xn ∧ xn ≤ 1000000000) ∧ 1 ≤ xd ∧ xd ≤ 1000000000) ∧ ((-1000000000 ≤ yn ∧ yn ≤ 1000000000) ∧ 1 ≤ yd ∧ yd ≤ 1000000000) ∧
    lowestB (-xn) xd = true ∧ lowestB (-yn) yd = true ∧ (Rat.divInt s.n s.d + Rat.divInt t.n t.d) * Rat.divInt (-xn) xd = ((s.p - t.p : Int) : Rat) ∧ (Rat.divInt s.n s.d + Rat.divInt t.n t.d) * Rat.divInt (-yn) yd = ((s.q - t.q : Int) : Rat) := by
  obtain ⟨h1, h2⟩ := cur_two hok Src.p
  obtain ⟨h3, h4⟩ := cur_two hok Src.q
  obtain ⟨g1, g2⟩ := hs t (by simp)
  obtain ⟨_, a1, a2, a3⟩ := small_ok g1
  obtain ⟨_, b1, b2, b3⟩ := small_ok g2
  rw [src_imp, src_imp, h1] at h2
  rw [src_imp, src_imp, h3] at h4
  have e : curCs [s, t] 0 0 = [curC [s, t] 0 0 s, curC [s, t] 0 0 t] := rfl
  unfold curC at e
  rw [h1, h3, neg_nm, neg_dn, neg_nm, neg_dn] at e
  generalize curR [s, t] Src.p 0 t = x at *
  generalize curR [s, t] Src.q 0 t = y at *
  refine ⟨x.num, x.den, y.num, y.den, e, ⟨a1, by omega, a3⟩, ⟨b1, by omega, b3⟩, neg_lowest x, neg_lowest y, ?_, ?_⟩
  · rw [neg_self]; exact h2
  · rw [neg_self]; exact h4
theorem par_zero {s t : Src} (hok : SrcsOk [s, t]) (hp : s.p = t.p) (hq : s.q = t.q) : curCs [s, t] 0 0 = [⟨0, 1, 0, 1⟩, ⟨0, 1, 0, 1⟩] := by
  have vp : ∀ u ∈ [s, t], u.p = t.p := fun u hu => by
    rcases List.mem_cons.1 hu with rfl | hu
    · exact hp
    · rcases List.mem_cons.1 hu with rfl | hu
      · rfl
      · cases hu
  have vq : ∀ u ∈ [s, t], u.q = t.q := fun u hu => by
    rcases List.mem_cons.1 hu with rfl | hu
    · exact hq
    · rcases List.mem_cons.1 hu with rfl | hu
      · rfl
      · cases hu
  have e : curCs [s, t] 0 0 = [curC [s, t] 0 0 s, curC [s, t] 0 0 t] := rfl
  unfold curC at e
  rw [cur_none hok (f := Src.p) vp (s := s) (by simp), cur_none hok (f := Src.p) vp (s := t) (by simp), cur_none hok (f := Src.q) vq (s := s) (by simp), cur_none hok (f := Src.q) vq (s := t) (by simp)] at e
  exact e
/-- With a load, equal units share it by their impedances. -/
theorem par_load {s t : Src} (hok : SrcsOk [s, t]) (p q : Int) : ∃ x1 y1 x2 y2 : Rat, curCs [s, t] p q = [⟨x1.num, x1.den, y1.num, y1.den⟩, ⟨x2.num, x2.den, y2.num, y2.den⟩] ∧ (allSmall [s, t] p q → (smallR x1 = true ∧ smallR y1 = true) ∧ smallR x2 = true ∧ smallR y2 = true) ∧
    (s.p = t.p → x1 * Rat.divInt s.n s.d = x2 * Rat.divInt t.n t.d) ∧ (s.q = t.q → q = 0 → y1 = 0 ∧ y2 = 0) := by
  refine ⟨curR [s, t] Src.p p s, curR [s, t] Src.q q s, curR [s, t] Src.p p t, curR [s, t] Src.q q t, rfl, fun hs => ⟨hs s (by simp), hs t (by simp)⟩, fun hp => ?_, fun hq h0 => ?_⟩
  · have h := cur_shared hok Src.p p hp
    rw [src_imp, src_imp] at h
    exact h
  · subst h0
    have vq : ∀ u ∈ [s, t], u.q = t.q := fun u hu => by
      rcases List.mem_cons.1 hu with rfl | hu
      · exact hq
      · rcases List.mem_cons.1 hu with rfl | hu
        · rfl
        · cases hu
    exact ⟨cur_none hok (f := Src.q) vq (s := s) (by simp), cur_none hok (f := Src.q) vq (s := t) (by simp)⟩

/-- Cells from an address on. -/
def C8 (W : World) (g o : Nat) (us : List Value) : Prop := g < W.heap.size ∧ ∀ j, j < us.length → W.cell? ⟨g, o + j, none⟩ = us[j]?
section
variable {W W' : World} {g o : Nat} {us : List Value}
theorem C8.past (h : C8 W g o us) (hb : Below W.heap.size W W') : C8 W' g o us := ⟨Nat.lt_of_lt_of_le h.1 hb.size, fun j hj => ((bcell hb).1 _ _ h.1).trans (h.2 j hj)⟩
theorem C8.alloc (h : C8 W g o us) {ob : Obj} : C8 (W.alloc ob) g o us := h.past (pa pr)
theorem C8.at_ (h : C8 W g o us) (j : Nat) {v : Value} (hj : us[j]? = some v) : W.cell? ⟨g, o + j, none⟩ = some v := (h.2 j (List.getElem?_eq_some_iff.1 hj).1).trans hj
theorem C8.cells (h : C8 W g o us) : CellsIn W.heap.size W (some ⟨g, o, none⟩) us := .inr ⟨g, o, rfl, h.1, h.2⟩
theorem C8.of {A : Option Addr} (h : CellsIn W.heap.size W A us) (hn : us ≠ []) : ∃ g o, A = some ⟨g, o, none⟩ ∧ C8 W g o us := by
  rcases h with h | ⟨b, off, hA, hb, hc⟩
  · exact absurd h hn
  · exact ⟨b, off, hA, hb, hc⟩
end
theorem blk_srcs {W : World} {b : Nat} {s t : Src} (h : Blk W b 87 #[.int .i64 s.p, .int .i64 s.q, .int .i64 s.n, .int .i64 s.d, .int .i64 t.p, .int .i64 t.q, .int .i64 t.n, .int .i64 t.d]) : CellsIn W.heap.size W (some ⟨b, 0, none⟩) (srcCells [s, t]) :=
  .inr ⟨b, 0, rfl, h.lt, fun j hj => by
    have e : srcCells [s, t] = [.int .i64 s.p, .int .i64 s.q, .int .i64 s.n, .int .i64 s.d, .int .i64 t.p, .int .i64 t.q, .int .i64 t.n, .int .i64 t.d] := rfl
    rw [Nat.zero_add, h.cell, e]
    simp⟩
def CIn (W : World) (A : Option Addr) (us : List Value) : Prop := CellsIn W.heap.size W A us
theorem CIn.past {W W' : World} {A : Option Addr} {us : List Value} (h : CIn W A us) (hb : Below W.heap.size W W') : CIn W' A us := (h.below hb).more hb.size
theorem CIn.alloc {W : World} {A : Option Addr} {us : List Value} (h : CIn W A us) {ob : Obj} : CIn (W.alloc ob) A us := h.past (pa pr)

/-- What CurrentsOf answers for two sources. -/
def TwoRet (w : World) (us : List Value) (e : Ending) (w' : World) : Prop := ∃ (g o c : Nat), e = .returned (.tuple #[.slice (some ⟨g, o, none⟩) 2 c, .int .i64 0]) ∧ C8 w' g o us ∧ Below w.heap.size w w'
theorem two_good {s t : Src} {p q : Int} {us : List Value} (h64 : ∀ u ∈ [s, t], Src64 u) (h0 : loadE [s, t] p q = 0) (hs : allSmall [s, t] p q) (hu : cuCells (curCs [s, t] p q) = us) (hn : us ≠ []) (w : World) (A : Option Addr) (c : Nat) (h : CIn w A (srcCells [s, t])) :
    Calls Tryz.prog 7 #[.slice A 2 c, .agg #[.int .i64 p, .int .i64 q]] w (TwoRet w us) := by
  have h1 := CurrentsOf_ok w.heap.size [s, t] A c p q w h.srcs (Nat.le_refl _) h64 h0
  refine h1.mono ?_
  rintro e w' (⟨_, A1, c1, rfl, hc, hl, hb⟩ | ⟨h2, _⟩)
  · rw [hu] at hc
    obtain ⟨g, o, rfl, h8⟩ := C8.of hc hn
    exact ⟨g, o, c1, rfl, h8, hb⟩
  · exact absurd hs h2
theorem two_big {s t : Src} {p q : Int} (h64 : ∀ u ∈ [s, t], Src64 u) (h0 : loadE [s, t] p q = 0) (hs : ¬ allSmall [s, t] p q) (w : World) (A : Option Addr) (c : Nat) (h : CIn w A (srcCells [s, t])) :
    Calls Tryz.prog 7 #[.slice A 2 c, .agg #[.int .i64 p, .int .i64 q]] w fun e w' => e = .returned (.tuple #[.slice none 0 0, .int .i64 8]) ∧ Below w.heap.size w w' := by
  have h1 := CurrentsOf_ok w.heap.size [s, t] A c p q w h.srcs (Nat.le_refl _) h64 h0
  refine h1.mono ?_
  rintro e w' (⟨h2, _⟩ | ⟨_, rfl, hb⟩)
  · exact absurd h2 hs
  · exact ⟨rfl, hb⟩
theorem two_srcE {s t : Src} (h64 : ∀ u ∈ [s, t], Src64 u) (w : World) (b : Nat) (h : Blk w b 87 #[.int .i64 s.p, .int .i64 s.q, .int .i64 s.n, .int .i64 s.d, .int .i64 t.p, .int .i64 t.q, .int .i64 t.n, .int .i64 t.d]) :
    Calls Tryz.prog 11 #[.slice (some ⟨b, 0, none⟩) 2 2] w fun r w' => r = .returned (.int .i64 (sourcesE [s, t])) ∧ Below w.heap.size w w' :=
  refSourcesErr_any w.heap.size [s, t] _ 2 w (blk_srcs h).srcs (Nat.le_refl _) h64
theorem two_copy {s t : Src} (w : World) (b : Nat) (h : Blk w b 87 #[.int .i64 s.p, .int .i64 s.q, .int .i64 s.n, .int .i64 s.d, .int .i64 t.p, .int .i64 t.q, .int .i64 t.n, .int .i64 t.d]) :
    Calls Tryz.prog 8 #[.slice (some ⟨b, 0, none⟩) 2 2] w fun e w' => ∃ (A : Option Addr) (c : Nat), e = .returned (.slice A 2 c) ∧ CIn w' A (srcCells [s, t]) ∧ Below w.heap.size w w' := by
  refine (copySources_any w.heap.size (some ⟨b, 0, none⟩) 2 [s, t] w (blk_srcs h) (Nat.le_refl _) (show 2 ≤ 1000000 by decide)).mono ?_
  rintro e w' ⟨A, c, rfl, hc, _, hb⟩
  exact ⟨A, c, rfl, hc, hb⟩
theorem two_copyC {cs : List Cu} {us : List Value} (hu : cuCells cs = us) (hl : cs.length = 2) (w : World) (g o c : Nat) (h : C8 w g o us) :
    Calls Tryz.prog 10 #[.slice (some ⟨g, o, none⟩) 2 c] w fun e w' => ∃ (A : Option Addr) (c : Nat), e = .returned (.slice A 2 c) ∧ CIn w' A us ∧ Below w.heap.size w w' := by
  subst hu
  have h1 := copyCurrents_any w.heap.size (some ⟨g, o, none⟩) c cs w h.cells (Nat.le_refl _) (by omega)
  rw [hl] at h1
  refine h1.mono ?_
  rintro e w' ⟨A, c, rfl, hc, _, hb⟩
  exact ⟨A, c, rfl, hc, hb⟩
theorem cu64_okM {c : Cu} (h : CuOk c) : Cu64 c := by
  obtain ⟨⟨_, a1, a2, a3⟩, ⟨_, b1, b2, b3⟩⟩ := And.intro h.1 h.2
  unfold Cu64 W64
  omega
theorem two_check {s t : Src} {p q : Int} (h64 : ∀ u ∈ [s, t], Src64 u) (h0 : loadE [s, t] p q = 0) (hok : SrcsOk [s, t]) (hs : allSmall [s, t] p q) {us : List Value} (hu : cuCells (curCs [s, t] p q) = us) (w : World) (A A2 : Option Addr) (c c2 : Nat) (h : CIn w A (srcCells [s, t])) (h2 : CIn w A2 us) :
    Calls Tryz.prog 9 #[.slice A 2 c, .agg #[.int .i64 p, .int .i64 q], .slice A2 2 c2] w fun r w' => r = .returned (.tuple #[.int .i64 0, .int .i64 0]) ∧ Below w.heap.size w w' := by
  subst hu
  have hz : checkV [s, t] p q (curCs [s, t] p q) = (0, 0) := by rw [check_ok h0 rfl]; exact check_self hok hs
  have h64c : ∀ x ∈ curCs [s, t] p q, Cu64 x := fun x hx => by
    obtain ⟨u, hs', rfl⟩ := List.mem_map.1 hx
    exact cu64_okM (curC_ok hs hs')
  have h1 := CheckCurrents_any w.heap.size [s, t] A c (curCs [s, t] p q) A2 c2 p q w h.srcs h2.cus (Nat.le_refl _) h64 h64c
  rw [hz] at h1
  exact h1
theorem two_load0 {s t : Src} (h : sourcesE [s, t] = 0) : loadE [s, t] 0 0 = 0 := by
  unfold loadE
  rw [if_pos h]
  rfl
theorem two_loadE {s t : Src} {p q : Int} (h : sourcesE [s, t] = 0) (h2 : phE p q = 0) : loadE [s, t] p q = 0 := by
  unfold loadE
  rw [if_pos h]
  exact h2

end Go.Proofs.YtpdkbhjcpddnpaaGreatDoor
end
