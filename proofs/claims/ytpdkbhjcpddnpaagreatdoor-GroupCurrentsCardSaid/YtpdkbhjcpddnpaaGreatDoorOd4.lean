/- Contract: the error of a current. Printed by a program (gen_curerr.py). -/
import Derived.Test.YtpdkbhjcpddnpaaGreatDoorOc8
import Derived.Test.YtpdkbhjcpddnpaaGreatDoorOd3

section
namespace Go.Proofs.YtpdkbhjcpddnpaaGreatDoor
open Go.RowKit
attribute [local go_sem ↓] Go.wp_at_zero Go.wp_at_succ
attribute [local go_sem] pp_at0 pp_at1

theorem chk_at0 (W : World) : Sem.run Tryz.prog (Instr.index 168 (.agg #[.func (.func 91) #[] #[], .func (.func 92) #[] #[]]) (.int .i64 0)) W = .ok (.func (.func 91) #[] #[]) W := by kernel_rfl
theorem chk_at1 (W : World) : Sem.run Tryz.prog (Instr.index 168 (.agg #[.func (.func 91) #[] #[], .func (.func 92) #[] #[]]) (.int .i64 1)) W = .ok (.func (.func 92) #[] #[]) W := by kernel_rfl
attribute [local go_sem] chk_at0 chk_at1

set_option maxHeartbeats 1000000 in
theorem chk1_any (n d : Int) (hn : W64 n) (hd : W64 d) (w : World) :
    Calls Tryz.prog 91 #[.agg #[.int .i64 n, .int .i64 d]] w fun e w' => e = .returned (.int .i64 (frE n d)) ∧ Below w.heap.size w w' := by
  have HI := Lib.hid (fun w => isLowest_all n d hn hd w)
  unfold frE
  clear hn hd
  generalize lowestB n d = b at *
  go_enter Tryz.func91, Tryz.ntmps91
  go_wp2_with (first
    | (go_at_call 85; (with_reducible refine (HI.out _).mono ?_); rintro e w1 ⟨rfl, hb1⟩)
    | (go_at_call 46; (with_reducible refine (unless_any _ _ _).mono ?_); rintro e w' ⟨rfl, rfl⟩))
  go_ret
  exact ⟨rfl, pt (pa pr) hb1⟩

set_option maxHeartbeats 1000000 in
theorem chk2_any (n d : Int) (w : World) :
    Calls Tryz.prog 92 #[.agg #[.int .i64 n, .int .i64 d]] w fun e w' => e = .returned (.int .i64 (frR n d)) ∧ Below w.heap.size w w' := by
  have HI := Lib.hid (fun w => small_any n 1000000000 (by decide) (by decide) w)
  unfold frR
  generalize withinB n (-1000000000) 1000000000 = b at *
  cases b with
  | false =>
    rw [Bool.false_and]
    go_enter Tryz.func92, Tryz.ntmps92
    go_wp2_with (first
      | (go_at_call 44; (with_reducible refine (HI.out _).mono ?_); rintro e w1 ⟨rfl, rfl⟩)
      | (go_at_call 46; (with_reducible refine (unless_any _ _ _).mono ?_); rintro e w' ⟨rfl, rfl⟩))
    go_ret
    exact ⟨rfl, pa pr⟩
  | true =>
    rw [Bool.true_and]
    go_enter Tryz.func92, Tryz.ntmps92
    go_wp2_with (first
      | (go_at_call 44; (with_reducible refine (HI.out _).mono ?_); rintro e w1 ⟨rfl, rfl⟩)
      | (go_at_call 46; (with_reducible refine (unless_any _ _ _).mono ?_); rintro e w' ⟨rfl, rfl⟩))
    go_ret
    exact ⟨rfl, pa pr⟩

theorem bus_parts {x y : Rat} (h : x = y) : x.num = y.num ∧ (x.den : Int) = (y.den : Int) := by subst h; exact ⟨rfl, rfl⟩
theorem bus_other {x y : Rat} (h : x ≠ y) : x.num ≠ y.num ∨ (x.den : Int) ≠ (y.den : Int) := by
  by_cases h1 : x.num = y.num
  · right
    intro h2
    exact h (by
      have e1 := Rat.num_divInt_den x
      have e2 := Rat.num_divInt_den y
      rw [← e1, ← e2, h1, h2])
  · exact .inl h1
theorem fv_1 {a b c d : Int} (h : a ≠ 0) : firstV [a, b, c, d] = a := by simp [firstV, h]
theorem fv_2 {a b c d : Int} (h0 : a = 0) (h : b ≠ 0) : firstV [a, b, c, d] = b := by simp [firstV, h0, h]
theorem fv_3 {a b c d : Int} (h0 : a = 0) (h1 : b = 0) (h : c ≠ 0) : firstV [a, b, c, d] = c := by simp [firstV, h0, h1, h]
theorem fv_4 {a b c d : Int} (h0 : a = 0) (h1 : b = 0) (h2 : c = 0) : firstV [a, b, c, d] = d := by simp [firstV, h0, h1, h2]; intro h; exact h.symm
theorem fv_two {a b : Int} (h : firstV [a, b] = 0) : a = 0 ∧ b = 0 := by
  obtain ⟨h1, h2⟩ := firstV_zero.1 h
  exact ⟨h1, (firstV_zero.1 h2).1⟩


set_option maxHeartbeats 16000000 in
set_option maxRecDepth 100000 in
theorem currentErr_any (B : Nat) (ls : List Src) (A : Option Addr) (c : Nat) (cs : List Cu) (A2 : Option Addr) (c2 : Nat) (i : Nat) (w : World) (hr : SrcsIn B w A ls) (hr2 : CusIn B w A2 cs) (hB : B ≤ w.heap.size) (hi : i < ls.length) (hl : cs.length = ls.length) (hok : SrcsOk ls) (h64 : ∀ s ∈ cs, Cu64 s) (hz : i = 0 ∨ CuOk (cs.getD 0 default)) :
    Calls Tryz.prog 47 #[.slice A ls.length c, .slice A2 cs.length c2, .int .i64 (i : Int)] w fun r w' => r = .returned (.int .i64 (curEs ls cs i)) ∧ Below w.heap.size w w' := by
  have hic : i < cs.length := by omega
  have h0 : 0 < ls.length := hok.1.1
  have h0c : 0 < cs.length := by omega
  have hokI := hok.at_ hi
  have hok0 := hok.at_ h0
  have i0 := src_cast i
  have i1 := src_lt hi
  have i2 := src_lt hic
  have j1 : (0 : Int) < (ls.length : Int) := by omega
  have j2 : (0 : Int) < (cs.length : Int) := by omega
  have i9 : (i : Int) ≤ 4 := by have := hok.1.2; omega
  obtain ⟨b, off, hA, hb, hct⟩ := hr.at_ hi
  subst hA
  obtain ⟨b2, off2, hA2, hb2, hct2⟩ := hr2.at_ hic
  subst hA2
  have hcu : Cu64 (cs.getD i default) := h64 _ (by rw [List.getD_eq_getElem?_getD, List.getElem?_eq_getElem hic]; exact List.getElem_mem hic)
  have hv : curEs ls cs i = curE (ls.getD i default) (ls.getD 0 default) (cs.getD i default) (cs.getD 0 default) := rfl
  have hz : CuOk (cs.getD i default) → CuOk (cs.getD 0 default) := fun h => by
    rcases hz with rfl | hz
    · exact h
    · exact hz
  rw [hv]
  have hS := hct i hi
  have hS0 := hct 0 h0
  have hC := hct2 i hic
  have hC0 := hct2 0 h0c
  have hbw : b < w.heap.size := Nat.lt_of_lt_of_le hb hB
  have hb2w : b2 < w.heap.size := Nat.lt_of_lt_of_le hb2 hB
  clear hct hct2 hr hr2 h64 hv hok hl hic
  generalize ls.getD i default = s at *
  generalize ls.getD 0 default = t at *
  generalize cs.getD i default = cu at *
  generalize cs.getD 0 default = cz at *
  generalize ls.length = n at *
  generalize cs.length = m at *
  obtain ⟨sp, sq, sn, sd⟩ := s
  obtain ⟨tp, tq, tn, td⟩ := t
  obtain ⟨pn, pd, qn, qd⟩ := cu
  obtain ⟨zpn, zpd, zqn, zqd⟩ := cz
  dsimp only at hS hS0 hC hC0
  rw [Nat.zero_mul, Nat.add_zero] at hS0 hC0
  have HCells := Lib.hid (show ∀ W, Below w.heap.size w W → (W.cell? ⟨b, off + i * 4, none⟩ = some (.int .i64 sp) ∧ W.cell? ⟨b, off + i * 4 + 1, none⟩ = some (.int .i64 sq) ∧ W.cell? ⟨b, off + i * 4 + 2, none⟩ = some (.int .i64 sn) ∧ W.cell? ⟨b, off + i * 4 + 3, none⟩ = some (.int .i64 sd) ∧ b < W.heap.size) ∧
      (W.cell? ⟨b, off, none⟩ = some (.int .i64 tp) ∧ W.cell? ⟨b, off + 1, none⟩ = some (.int .i64 tq) ∧ W.cell? ⟨b, off + 2, none⟩ = some (.int .i64 tn) ∧ W.cell? ⟨b, off + 3, none⟩ = some (.int .i64 td) ∧ b2 < W.heap.size) ∧
      (W.cell? ⟨b2, off2, none⟩ = some (.int .i64 zpn) ∧ W.cell? ⟨b2, off2 + 1, none⟩ = some (.int .i64 zpd) ∧ W.cell? ⟨b2, off2 + 2, none⟩ = some (.int .i64 zqn) ∧ W.cell? ⟨b2, off2 + 3, none⟩ = some (.int .i64 zqd) ∧ b2 < W.heap.size) from fun W hW =>
    ⟨⟨((bcell hW).1 _ _ hbw).trans hS.1, ((bcell hW).1 _ _ hbw).trans hS.2.1, ((bcell hW).1 _ _ hbw).trans hS.2.2.1, ((bcell hW).1 _ _ hbw).trans hS.2.2.2, Nat.lt_of_lt_of_le hbw hW.size⟩,
     ⟨((bcell hW).1 _ _ hbw).trans hS0.1, ((bcell hW).1 _ _ hbw).trans hS0.2.1, ((bcell hW).1 _ _ hbw).trans hS0.2.2.1, ((bcell hW).1 _ _ hbw).trans hS0.2.2.2, Nat.lt_of_lt_of_le hb2w hW.size⟩,
     ⟨((bcell hW).1 _ _ hb2w).trans hC0.1, ((bcell hW).1 _ _ hb2w).trans hC0.2.1, ((bcell hW).1 _ _ hb2w).trans hC0.2.2.1, ((bcell hW).1 _ _ hb2w).trans hC0.2.2.2, Nat.lt_of_lt_of_le hb2w hW.size⟩⟩)
  obtain ⟨u0, u1, u2, u3⟩ := hC
  have HK1p := Lib.hid (chk1_any pn pd hcu.1 hcu.2.1)
  have HK1q := Lib.hid (chk1_any qn qd hcu.2.2.1 hcu.2.2.2)
  have HK2p := Lib.hid (chk2_any pn pd)
  have HK2q := Lib.hid (chk2_any qn qd)
  have HR0 := Lib.hid (show curE ⟨sp, sq, sn, sd⟩ ⟨tp, tq, tn, td⟩ ⟨pn, pd, qn, qd⟩ ⟨zpn, zpd, zqn, zqd⟩ = firstV [firstV [frE pn pd, frE qn qd], firstV [frR pn pd, frR qn qd], if busF sp ⟨sp, sq, sn, sd⟩ pn pd = busF tp ⟨tp, tq, tn, td⟩ zpn zpd then 0 else 19, if busF sq ⟨sp, sq, sn, sd⟩ qn qd = busF tq ⟨tp, tq, tn, td⟩ zqn zqd then 0 else 19] from rfl)
  generalize curE ⟨sp, sq, sn, sd⟩ ⟨tp, tq, tn, td⟩ ⟨pn, pd, qn, qd⟩ ⟨zpn, zpd, zqn, zqd⟩ = R at *
  have HFr := Lib.hid (show firstV [frE pn pd, frE qn qd] = 0 → firstV [frR pn pd, frR qn qd] = 0 → CuOk ⟨pn, pd, qn, qd⟩ from fun h1 h2 => ⟨fr_ok (fv_two h1).1 (fv_two h2).1, fr_ok (fv_two h1).2 (fv_two h2).2⟩)
  have HOk := Lib.hid (And.intro hokI hok0)
  have HZ := Lib.hid hz
  clear hcu hS hS0 hC0 hokI hok0 hz hb hb2 hB
  generalize frE pn pd = A1p at *
  generalize frE qn qd = A1q at *
  generalize frR pn pd = A2p at *
  generalize frR qn qd = A2q at *

  go_enter Tryz.func47, Tryz.ntmps47
  go_wp2
  refine wp_loop_rounds 3 ?_
  have OB := Lib.hid (show Blk (w.alloc (.cells #[.int .i64 pn, .int .i64 pd, .int .i64 qn, .int .i64 qd] 90)) w.heap.size 90 #[.int .i64 pn, .int .i64 pd, .int .i64 qn, .int .i64 qd] from Blk.new _ _ _)
  have SB := Lib.hid (pa (o := .cells #[.int .i64 pn, .int .i64 pd, .int .i64 qn, .int .i64 qd] 90) (pr (w := w)))
  generalize w.alloc (.cells #[.int .i64 pn, .int .i64 pd, .int .i64 qn, .int .i64 qd] 90) = v at *
  clear u0 u1 u2 u3
  rw [rounds_succ]
  have o0 := OB.out.cellAt 0 rfl
  have o1 := OB.out.cellAt 1 rfl
  have o2 := OB.out.cellAt 2 rfl
  have o3 := OB.out.cellAt 3 rfl
  have ol := OB.out.lt
  go_wp2
  refine region_below 8 follows_mixed (by kernel_rfl) ?_
  intro C hC
  simp only [List.take_succ_cons, List.take_zero, List.drop_succ_cons, List.drop_zero]
  repeat (first
    | ((with_reducible refine quiet_plain rfl (fun K hK => ?_)); (focus (apply quiet_val; (focus (intro w' hw; obtain ⟨hcq, hfq⟩ := bcell ((hC.out _).1 hw); go_simp; (first | done | rfl | (with_reducible exact call_below hC hw (HK1p.out _)) | (with_reducible exact call_below hC hw (HK1q.out _))))); (simp only [Act.put, List.setIfInBounds_toArray, List.set_cons_succ, List.set_cons_zero]); (with_reducible refine hK _ ?_); clear hK K)))
    | ((with_reducible refine quiet_skip ?_ ?_); (focus (first | (simp [Region.wanted, yielded]; done) | (simp [Region.wanted, yielded, undef]; done))); simp only [Act.put, List.setIfInBounds_toArray, List.set_cons_succ, List.set_cons_zero])
    | ((with_reducible refine quiet_go ?_ (fun K hK => ?_)); (focus (first | (simp [Region.wanted, yielded]; done) | (simp [Region.wanted, yielded, undef]; done))); (focus (apply quiet_val; (focus (intro w' hw; obtain ⟨hcq, hfq⟩ := bcell ((hC.out _).1 hw); go_simp; (first | done | rfl | (with_reducible exact call_below hC hw (HK1p.out _)) | (with_reducible exact call_below hC hw (HK1q.out _))))); (simp only [Act.put, List.setIfInBounds_toArray, List.set_cons_succ, List.set_cons_zero]); (with_reducible refine hK _ ?_); clear hK K))))
  refine wpQuiet_nil ?_
  intro w1 hb1
  replace hb1 := (hC.out _).1 hb1
  clear hC C
  obtain ⟨hc1, hf1⟩ := bcell hb1
  have OB := Lib.hid (OB.out.past hb1)
  have SB := Lib.hid (pt SB.out hb1)
  clear hb1 hc1 hf1 o0 o1 o2 o3 ol
  obtain ⟨E1, hE⟩ : ∃ E, firstV [A1p, A1q] = E := ⟨_, rfl⟩
  have HV1 := Lib.hid hE
  clear hE
  by_cases h1 : E1 = 0
  rotate_left
  · have HR := Lib.hid (show R = E1 by rw [HR0.out, fv_1 (by rw [HV1.out]; exact h1), HV1.out])
    have eb : (E1 != 0) = true := by simpa using h1
    go_wp2_with (go_at_call 45; refine (gfirst2 _ _ _ _ _ (by first | (go_simp; done) | (go_simp; rfl)) (by first | (go_simp; done) | (go_simp; rfl)) E1 HV1.out).mono ?_; rintro e w' ⟨rfl, rfl⟩)
    go_ret
    exact ⟨by first | (rw [HR.out]; done) | (rw [HR.out]; rfl), pa SB.out⟩
  subst h1
  go_wp2_with (go_at_call 45; refine (gfirst2 _ _ _ _ _ (by first | (go_simp; done) | (go_simp; rfl)) (by first | (go_simp; done) | (go_simp; rfl)) 0 HV1.out).mono ?_; rintro e w' ⟨rfl, rfl⟩)
  have OB := Lib.hid (OB.out.alloc (o := .cells #[.int .i64 A1p, .int .i64 A1q] 29))
  have SB := Lib.hid (pa (o := .cells #[.int .i64 A1p, .int .i64 A1q] 29) SB.out)
  generalize w1.alloc (.cells #[.int .i64 A1p, .int .i64 A1q] 29) = v at *
  as_aux_lemma =>
  rw [rounds_succ]
  have o0 := OB.out.cellAt 0 rfl
  have o1 := OB.out.cellAt 1 rfl
  have o2 := OB.out.cellAt 2 rfl
  have o3 := OB.out.cellAt 3 rfl
  have ol := OB.out.lt
  go_wp2
  refine region_below 8 follows_mixed (by kernel_rfl) ?_
  intro C hC
  simp only [List.take_succ_cons, List.take_zero, List.drop_succ_cons, List.drop_zero]
  repeat (first
    | ((with_reducible refine quiet_plain rfl (fun K hK => ?_)); (focus (apply quiet_val; (focus (intro w' hw; obtain ⟨hcq, hfq⟩ := bcell ((hC.out _).1 hw); go_simp; (first | done | rfl | (with_reducible exact call_below hC hw (HK2p.out _)) | (with_reducible exact call_below hC hw (HK2q.out _))))); (simp only [Act.put, List.setIfInBounds_toArray, List.set_cons_succ, List.set_cons_zero]); (with_reducible refine hK _ ?_); clear hK K)))
    | ((with_reducible refine quiet_skip ?_ ?_); (focus (first | (simp [Region.wanted, yielded]; done) | (simp [Region.wanted, yielded, undef]; done))); simp only [Act.put, List.setIfInBounds_toArray, List.set_cons_succ, List.set_cons_zero])
    | ((with_reducible refine quiet_go ?_ (fun K hK => ?_)); (focus (first | (simp [Region.wanted, yielded]; done) | (simp [Region.wanted, yielded, undef]; done))); (focus (apply quiet_val; (focus (intro w' hw; obtain ⟨hcq, hfq⟩ := bcell ((hC.out _).1 hw); go_simp; (first | done | rfl | (with_reducible exact call_below hC hw (HK2p.out _)) | (with_reducible exact call_below hC hw (HK2q.out _))))); (simp only [Act.put, List.setIfInBounds_toArray, List.set_cons_succ, List.set_cons_zero]); (with_reducible refine hK _ ?_); clear hK K))))
  refine wpQuiet_nil ?_
  intro w1 hb1
  replace hb1 := (hC.out _).1 hb1
  clear hC C
  obtain ⟨hc1, hf1⟩ := bcell hb1
  have OB := Lib.hid (OB.out.past hb1)
  have SB := Lib.hid (pt SB.out hb1)
  clear hb1 hc1 hf1 o0 o1 o2 o3 ol
  obtain ⟨E2, hE⟩ : ∃ E, firstV [A2p, A2q] = E := ⟨_, rfl⟩
  have HV2 := Lib.hid hE
  clear hE
  by_cases h2 : E2 = 0
  rotate_left
  · have HR := Lib.hid (show R = E2 by rw [HR0.out, fv_2 HV1.out (by rw [HV2.out]; exact h2), HV2.out])
    have eb : (E2 != 0) = true := by simpa using h2
    go_wp2_with (go_at_call 45; refine (gfirst2 _ _ _ _ _ (by first | (go_simp; done) | (go_simp; rfl)) (by first | (go_simp; done) | (go_simp; rfl)) E2 HV2.out).mono ?_; rintro e w' ⟨rfl, rfl⟩)
    go_ret
    exact ⟨by first | (rw [HR.out]; done) | (rw [HR.out]; rfl), pa SB.out⟩
  subst h2
  go_wp2_with (go_at_call 45; refine (gfirst2 _ _ _ _ _ (by first | (go_simp; done) | (go_simp; rfl)) (by first | (go_simp; done) | (go_simp; rfl)) 0 HV2.out).mono ?_; rintro e w' ⟨rfl, rfl⟩)
  have OB := Lib.hid (OB.out.alloc (o := .cells #[.int .i64 A2p, .int .i64 A2q] 29))
  have SB := Lib.hid (pa (o := .cells #[.int .i64 A2p, .int .i64 A2q] 29) SB.out)
  generalize w1.alloc (.cells #[.int .i64 A2p, .int .i64 A2q] 29) = v at *
  as_aux_lemma =>
  rw [rounds_succ]
  go_wp2_with (go_at_call 41; refine (parts_any _).mono ?_; rintro e w2 ⟨rfl, hb2⟩)
  have OB := Lib.hid (OB.out.past hb2)
  have SB := Lib.hid (pt SB.out hb2)
  clear hb2
  have hcu := HFr.out HV1.out HV2.out
  have hcz := HZ.out hcu
  obtain ⟨okI, ok0⟩ := HOk.out
  have HIp := Lib.hid (fun w => busBy_any sp sq sn sd sp pn pd okI okI.1 hcu.1 w)
  have HIq := Lib.hid (fun w => busBy_any sp sq sn sd sq qn qd okI okI.2.1 hcu.2 w)
  have HZp := Lib.hid (fun w => busBy_any tp tq tn td tp zpn zpd ok0 ok0.1 hcz.1 w)
  have HZq := Lib.hid (fun w => busBy_any tp tq tn td tq zqn zqd ok0 ok0.2.1 hcz.2 w)
  clear hcu hcz okI ok0 HFr HZ HOk HK1p HK1q HK2p HK2q
  have HEp := Lib.hid (bus_parts (x := busF sp ⟨sp, sq, sn, sd⟩ pn pd) (y := busF tp ⟨tp, tq, tn, td⟩ zpn zpd))
  have HNp := Lib.hid (bus_other (x := busF sp ⟨sp, sq, sn, sd⟩ pn pd) (y := busF tp ⟨tp, tq, tn, td⟩ zpn zpd))
  generalize busF sp ⟨sp, sq, sn, sd⟩ pn pd = rSp at *
  generalize busF tp ⟨tp, tq, tn, td⟩ zpn zpd = rTp at *
  generalize rSp.num = xnp at *
  generalize (rSp.den : Int) = xdp at *
  generalize rTp.num = ynp at *
  generalize (rTp.den : Int) = ydp at *
  have HEq := Lib.hid (bus_parts (x := busF sq ⟨sp, sq, sn, sd⟩ qn qd) (y := busF tq ⟨tp, tq, tn, td⟩ zqn zqd))
  have HNq := Lib.hid (bus_other (x := busF sq ⟨sp, sq, sn, sd⟩ qn qd) (y := busF tq ⟨tp, tq, tn, td⟩ zqn zqd))
  generalize busF sq ⟨sp, sq, sn, sd⟩ qn qd = rSq at *
  generalize busF tq ⟨tp, tq, tn, td⟩ zqn zqd = rTq at *
  generalize rSq.num = xnq at *
  generalize (rSq.den : Int) = xdq at *
  generalize rTq.num = ynq at *
  generalize (rTq.den : Int) = ydq at *
  obtain ⟨v, rfl⟩ : ∃ v, v = w2 := ⟨_, rfl⟩
  refine wp_loop_rounds 3 ?_
  rw [rounds_succ]
  have PN : Blk (v.alloc (.cells #[.nilFunc, .nilFunc] 108)) v.heap.size 108 #[.nilFunc, .nilFunc] := Blk.new _ _ _
  go_wp2_with ((with_reducible refine store_blk (T := 108) (x := .tmp 12) (y := .tmp 38) (vs := #[.func (.func 86) #[] #[], .func (.func 87) #[] #[]]) PN ?_ ?_ ?_ ?_ ?_ ?_); (focus rfl); (focus exact part_size); (focus (simp [Value.oneCell']; done)); (focus rfl); (focus rfl); intro v3 P1 PP)
  have OB := Lib.hid (OB.out.alloc.put PP (Nat.ne_of_lt OB.out.lt))
  have SB := Lib.hid (pp (pa SB.out) PP SB.out.size)
  generalize v.heap.size = pb at *
  clear PN PP
  as_aux_lemma =>
  have pf0 := P1.cellAt 0 rfl
  have pf1 := P1.cellAt 1 rfl
  have pl := P1.lt
  have o0 := OB.out.cellAt 0 rfl
  have o1 := OB.out.cellAt 1 rfl
  have o2 := OB.out.cellAt 2 rfl
  have o3 := OB.out.cellAt 3 rfl
  have ol := OB.out.lt
  obtain ⟨⟨y0, y1, y2, y3, yl⟩, ⟨z0, z1, z2, z3, zl⟩, ⟨c0, c1, c2, c3, cl⟩⟩ := HCells.out _ SB.out
  refine region_below 36 follows_mixed (by kernel_rfl) ?_
  intro C hC
  simp only [List.take_succ_cons, List.take_zero, List.drop_succ_cons, List.drop_zero]
  repeat (first
    | ((with_reducible refine quiet_plain rfl (fun K hK => ?_)); (focus (apply quiet_val; (focus (intro w' hw; obtain ⟨hcq, hfq⟩ := bcell ((hC.out _).1 hw); go_simp; (first | done | rfl | (with_reducible exact call_below hC hw (part_1 _ _ _)) | (with_reducible exact call_same hw (part_2 _ _ _)) | (with_reducible exact call_below hC hw (HIp.out _)) | (with_reducible exact call_below hC hw (HZp.out _))))); (simp only [Act.put, List.setIfInBounds_toArray, List.set_cons_succ, List.set_cons_zero]); (with_reducible refine hK _ ?_); clear hK K)))
    | ((with_reducible refine quiet_skip ?_ ?_); (focus (first | (simp [Region.wanted, yielded]; done) | (simp [Region.wanted, yielded, undef]; done))); simp only [Act.put, List.setIfInBounds_toArray, List.set_cons_succ, List.set_cons_zero])
    | ((with_reducible refine quiet_go ?_ (fun K hK => ?_)); (focus (first | (simp [Region.wanted, yielded]; done) | (simp [Region.wanted, yielded, undef]; done))); (focus (apply quiet_val; (focus (intro w' hw; obtain ⟨hcq, hfq⟩ := bcell ((hC.out _).1 hw); go_simp; (first | done | rfl | (with_reducible exact call_below hC hw (part_1 _ _ _)) | (with_reducible exact call_same hw (part_2 _ _ _)) | (with_reducible exact call_below hC hw (HIp.out _)) | (with_reducible exact call_below hC hw (HZp.out _))))); (simp only [Act.put, List.setIfInBounds_toArray, List.set_cons_succ, List.set_cons_zero]); (with_reducible refine hK _ ?_); clear hK K))))
  refine wpQuiet_nil ?_
  intro w1 hb1
  replace hb1 := (hC.out _).1 hb1
  clear hC C
  obtain ⟨hc1, hf1⟩ := bcell hb1
  have OB := Lib.hid (OB.out.past hb1)
  have SB := Lib.hid (pt SB.out hb1)
  clear hb1 hc1 hf1 pf0 pf1 pl o0 o1 o2 o3 ol y0 y1 y2 y3 yl z0 z1 z2 z3 zl c0 c1 c2 c3 cl P1
  by_cases h3 : rSp = rTp
  rotate_left
  · have HR := Lib.hid (show R = 19 by rw [HR0.out, fv_3 HV1.out HV2.out (by rw [if_neg h3]; decide), if_neg h3])
    rcases HNp.out h3 with hne | hne
    · have hnb : (xnp == ynp) = false := beq_eq_false_iff_ne.2 hne
      go_wp2
      go_ret
      exact ⟨by first | (rw [HR.out]; done) | (rw [HR.out]; rfl), SB.out⟩
    · have hnb : (xdp == ydp) = false := beq_eq_false_iff_ne.2 hne
      go_wp2
      go_ret
      exact ⟨by first | (rw [HR.out]; done) | (rw [HR.out]; rfl), SB.out⟩
  obtain ⟨g1, g2⟩ := HEp.out h3
  have HPe := Lib.hid h3
  clear h3 HEp HNp HIp HZp
  subst g1 g2
  go_wp2
  obtain ⟨v, rfl⟩ : ∃ v, v = w1 := ⟨_, rfl⟩
  rw [rounds_succ]
  have PN : Blk (v.alloc (.cells #[.nilFunc, .nilFunc] 108)) v.heap.size 108 #[.nilFunc, .nilFunc] := Blk.new _ _ _
  go_wp2_with ((with_reducible refine store_blk (T := 108) (x := .tmp 12) (y := .tmp 38) (vs := #[.func (.func 88) #[] #[], .func (.func 89) #[] #[]]) PN ?_ ?_ ?_ ?_ ?_ ?_); (focus rfl); (focus exact part_size); (focus (simp [Value.oneCell']; done)); (focus rfl); (focus rfl); intro v3 P1 PP)
  have OB := Lib.hid (OB.out.alloc.put PP (Nat.ne_of_lt OB.out.lt))
  have SB := Lib.hid (pp (pa SB.out) PP SB.out.size)
  generalize v.heap.size = pb at *
  clear PN PP
  as_aux_lemma =>
  have pf0 := P1.cellAt 0 rfl
  have pf1 := P1.cellAt 1 rfl
  have pl := P1.lt
  have o0 := OB.out.cellAt 0 rfl
  have o1 := OB.out.cellAt 1 rfl
  have o2 := OB.out.cellAt 2 rfl
  have o3 := OB.out.cellAt 3 rfl
  have ol := OB.out.lt
  obtain ⟨⟨y0, y1, y2, y3, yl⟩, ⟨z0, z1, z2, z3, zl⟩, ⟨c0, c1, c2, c3, cl⟩⟩ := HCells.out _ SB.out
  refine region_below 36 follows_mixed (by kernel_rfl) ?_
  intro C hC
  simp only [List.take_succ_cons, List.take_zero, List.drop_succ_cons, List.drop_zero]
  repeat (first
    | ((with_reducible refine quiet_plain rfl (fun K hK => ?_)); (focus (apply quiet_val; (focus (intro w' hw; obtain ⟨hcq, hfq⟩ := bcell ((hC.out _).1 hw); go_simp; (first | done | rfl | (with_reducible exact call_below hC hw (part_3 _ _ _)) | (with_reducible exact call_same hw (part_4 _ _ _)) | (with_reducible exact call_below hC hw (HIq.out _)) | (with_reducible exact call_below hC hw (HZq.out _))))); (simp only [Act.put, List.setIfInBounds_toArray, List.set_cons_succ, List.set_cons_zero]); (with_reducible refine hK _ ?_); clear hK K)))
    | ((with_reducible refine quiet_skip ?_ ?_); (focus (first | (simp [Region.wanted, yielded]; done) | (simp [Region.wanted, yielded, undef]; done))); simp only [Act.put, List.setIfInBounds_toArray, List.set_cons_succ, List.set_cons_zero])
    | ((with_reducible refine quiet_go ?_ (fun K hK => ?_)); (focus (first | (simp [Region.wanted, yielded]; done) | (simp [Region.wanted, yielded, undef]; done))); (focus (apply quiet_val; (focus (intro w' hw; obtain ⟨hcq, hfq⟩ := bcell ((hC.out _).1 hw); go_simp; (first | done | rfl | (with_reducible exact call_below hC hw (part_3 _ _ _)) | (with_reducible exact call_same hw (part_4 _ _ _)) | (with_reducible exact call_below hC hw (HIq.out _)) | (with_reducible exact call_below hC hw (HZq.out _))))); (simp only [Act.put, List.setIfInBounds_toArray, List.set_cons_succ, List.set_cons_zero]); (with_reducible refine hK _ ?_); clear hK K))))
  refine wpQuiet_nil ?_
  intro w1 hb1
  replace hb1 := (hC.out _).1 hb1
  clear hC C
  obtain ⟨hc1, hf1⟩ := bcell hb1
  have OB := Lib.hid (OB.out.past hb1)
  have SB := Lib.hid (pt SB.out hb1)
  clear hb1 hc1 hf1 pf0 pf1 pl o0 o1 o2 o3 ol y0 y1 y2 y3 yl z0 z1 z2 z3 zl c0 c1 c2 c3 cl P1
  by_cases h3 : rSq = rTq
  rotate_left
  · have HR := Lib.hid (show R = 19 by rw [HR0.out, fv_4 HV1.out HV2.out (if_pos HPe.out), if_neg h3])
    rcases HNq.out h3 with hne | hne
    · have hnb : (xnq == ynq) = false := beq_eq_false_iff_ne.2 hne
      go_wp2
      go_ret
      exact ⟨by first | (rw [HR.out]; done) | (rw [HR.out]; rfl), SB.out⟩
    · have hnb : (xdq == ydq) = false := beq_eq_false_iff_ne.2 hne
      go_wp2
      go_ret
      exact ⟨by first | (rw [HR.out]; done) | (rw [HR.out]; rfl), SB.out⟩
  obtain ⟨g1, g2⟩ := HEq.out h3
  have HR := Lib.hid (show R = 0 by rw [HR0.out, fv_4 HV1.out HV2.out (if_pos HPe.out), if_pos h3])
  clear h3 HEq HNq HIq HZq
  subst g1 g2
  go_wp2
  obtain ⟨v, rfl⟩ : ∃ v, v = w1 := ⟨_, rfl⟩
  rw [rounds_succ]
  go_wp2
  go_ret
  exact ⟨by first | (rw [HR.out]; done) | (rw [HR.out]; rfl), SB.out⟩

end Go.Proofs.YtpdkbhjcpddnpaaGreatDoor
end
