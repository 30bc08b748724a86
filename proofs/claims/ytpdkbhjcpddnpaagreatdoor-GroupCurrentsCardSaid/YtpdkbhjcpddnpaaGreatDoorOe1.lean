/- The reference's check of currents. Printed by a program (gen_refchk.py). -/
import Derived.Test.YtpdkbhjcpddnpaaGreatDoorOf3
import Derived.Test.YtpdkbhjcpddnpaaGreatDoorOa8
import Derived.Deep.DeepCutAuto

section
namespace Go.Proofs.YtpdkbhjcpddnpaaGreatDoor
open Go.RowKit
attribute [local go_sem ↓] Go.wp_at_zero Go.wp_at_succ

set_option maxHeartbeats 2000000 in
theorem refCheckCurrents_len (n m c c2 : Nat) (A A2 : Option Addr) (p q : Int) (w : World) (hn : ¬ m = n) :
    Calls Tryz.prog 13 #[.slice A n c, .agg #[.int .i64 p, .int .i64 q], .slice A2 m c2] w fun e w' => e = .returned (.tuple #[.int .i64 0, .int .i64 10]) ∧ Below w.heap.size w w' := by
  have i1 : ((m : Int) != (n : Int)) = true := by rw [bne_iff_ne]; omega
  have i2 : ¬ (m : Int) = (n : Int) := by omega
  have i3 : (m == n) = false := by simpa using hn
  have i4 : (m != n) = true := by simpa using hn
  go_enter Tryz.func13, Tryz.ntmps13
  go_wp2
  go_ret2
  exact ⟨rfl, pa pr⟩

set_option maxHeartbeats 16000000 in
set_option maxRecDepth 100000 in
theorem refCheckCurrents_ok (ls : List Src) (A : Option Addr) (c : Nat) (cs : List Cu) (A2 : Option Addr) (c2 : Nat) (p q : Int) (w : World) (hr : SrcsIn w.heap.size w A ls) (hr2 : CusIn w.heap.size w A2 cs) (hok : SrcsOk ls) (h64 : ∀ s ∈ cs, Cu64 s) (hl : cs.length = ls.length) (hlp : -1000000 ≤ p ∧ p ≤ 1000000) (hlq : -1000000 ≤ q ∧ q ≤ 1000000) :
    Calls Tryz.prog 13 #[.slice A ls.length c, .agg #[.int .i64 p, .int .i64 q], .slice A2 ls.length c2] w fun e w' => e = .returned (.tuple #[.int .i64 (checkC ls p q cs).1, .int .i64 (checkC ls p q cs).2]) ∧ Below w.heap.size w w' := by
  obtain ⟨bA, oA, rfl, hbA, hAc⟩ := hr.at_ hok.1.1
  obtain ⟨bC, oC, rfl, hbC, hCc⟩ := hr2.at_ (k := 0) (by rw [hl]; exact hok.1.1)
  rw [hl] at hCc
  have HAc := Lib.hid (show ∀ W, Below w.heap.size w W → ∀ j, j < ls.length → W.cell? ⟨bA, oA + j * 4, none⟩ = some (.int .i64 (ls.getD j default).p) ∧ W.cell? ⟨bA, oA + j * 4 + 1, none⟩ = some (.int .i64 (ls.getD j default).q) ∧ W.cell? ⟨bA, oA + j * 4 + 2, none⟩ = some (.int .i64 (ls.getD j default).n) ∧ W.cell? ⟨bA, oA + j * 4 + 3, none⟩ = some (.int .i64 (ls.getD j default).d) from fun W hW j hj => ⟨((bcell hW).1 _ _ hbA).trans (hAc j hj).1, ((bcell hW).1 _ _ hbA).trans (hAc j hj).2.1, ((bcell hW).1 _ _ hbA).trans (hAc j hj).2.2.1, ((bcell hW).1 _ _ hbA).trans (hAc j hj).2.2.2⟩)
  have HCc := Lib.hid (show ∀ W, Below w.heap.size w W → ∀ j, j < ls.length → W.cell? ⟨bC, oC + j * 4, none⟩ = some (.int .i64 (cs.getD j default).pn) ∧ W.cell? ⟨bC, oC + j * 4 + 1, none⟩ = some (.int .i64 (cs.getD j default).pd) ∧ W.cell? ⟨bC, oC + j * 4 + 2, none⟩ = some (.int .i64 (cs.getD j default).qn) ∧ W.cell? ⟨bC, oC + j * 4 + 3, none⟩ = some (.int .i64 (cs.getD j default).qd) from fun W hW j hj => ⟨((bcell hW).1 _ _ hbC).trans (hCc j hj).1, ((bcell hW).1 _ _ hbC).trans (hCc j hj).2.1, ((bcell hW).1 _ _ hbC).trans (hCc j hj).2.2.1, ((bcell hW).1 _ _ hbC).trans (hCc j hj).2.2.2⟩)
  obtain ⟨r1, r2, hRv⟩ : ∃ r1 r2, checkC ls p q cs = (r1, r2) := ⟨_, _, rfl⟩
  rw [hRv]
  have HRv := Lib.hid hRv
  have HOk := Lib.hid hok
  have H64 := Lib.hid h64
  have HL := Lib.hid hl
  have HI0 := Lib.hid (show ∀ W, Calls Tryz.prog 25 #[.int .i64 0] W (RatRet W (sumTo (cuPr cs) 0)) from fun W => by rw [sumTo_zero]; exact ratioInt_any 0 W (by decide) (by decide))
  have HI1 := Lib.hid (show ∀ W, Calls Tryz.prog 25 #[.int .i64 0] W (RatRet W (sumTo (cuQr cs) 0)) from fun W => by rw [sumTo_zero]; exact ratioInt_any 0 W (by decide) (by decide))
  have HIp := Lib.hid (fun W => ratioInt_any p W (by omega) (by omega))
  have HIq := Lib.hid (fun W => ratioInt_any q W (by omega) (by omega))
  have HA1 := Lib.hid (show ∀ (W : World) (k : Nat) (A3 : Option Addr) (c3 : Nat) (B3 : Option Addr) (d3 : Nat) (A4 : Option Addr) (c4 : Nat) (B4 : Option Addr) (d4 : Nat), k < ls.length → (∀ j, j < k + 1 → CuOk (cs.getD j default)) → RatAt W A3 c3 B3 d3 (sumTo (cuPr cs) k) → RatAt W A4 c4 B4 d4 (cuPr cs k) → Calls Tryz.prog 52 #[.agg #[.int .i64 (signD (sumTo (cuPr cs) k).num), .slice A3 (dl (sumTo (cuPr cs) k).num) c3, .int .i64 (signD ((sumTo (cuPr cs) k).den : Int)), .slice B3 (dl ((sumTo (cuPr cs) k).den : Int)) d3], .agg #[.int .i64 (signD (cuPr cs k).num), .slice A4 (dl (cuPr cs k).num) c4, .int .i64 (signD ((cuPr cs k).den : Int)), .slice B4 (dl ((cuPr cs k).den : Int)) d4]] W (RatRet W (sumTo (cuPr cs) (k + 1))) from fun W k A3 c3 B3 d3 A4 c4 B4 d4 hk hc h1 h2 => by
    have := HOk.out.1.2
    rw [sumTo_succ]
    exact ratioAdd_any _ _ 100 A3 c3 B3 d3 A4 c4 B4 d4 W h1 h2 (rb_mono (by omega) (sumTo_rb (k := k) fun j hj => fr_rb (hc j (by omega)).1)) (rb_mono (by decide) (fr_rb (hc k (by omega)).1)) (by decide))
  have HA2 := Lib.hid (show ∀ (W : World) (k : Nat) (A3 : Option Addr) (c3 : Nat) (B3 : Option Addr) (d3 : Nat) (A4 : Option Addr) (c4 : Nat) (B4 : Option Addr) (d4 : Nat), k < ls.length → (∀ j, j < k + 1 → CuOk (cs.getD j default)) → RatAt W A3 c3 B3 d3 (sumTo (cuQr cs) k) → RatAt W A4 c4 B4 d4 (cuQr cs k) → Calls Tryz.prog 52 #[.agg #[.int .i64 (signD (sumTo (cuQr cs) k).num), .slice A3 (dl (sumTo (cuQr cs) k).num) c3, .int .i64 (signD ((sumTo (cuQr cs) k).den : Int)), .slice B3 (dl ((sumTo (cuQr cs) k).den : Int)) d3], .agg #[.int .i64 (signD (cuQr cs k).num), .slice A4 (dl (cuQr cs k).num) c4, .int .i64 (signD ((cuQr cs k).den : Int)), .slice B4 (dl ((cuQr cs k).den : Int)) d4]] W (RatRet W (sumTo (cuQr cs) (k + 1))) from fun W k A3 c3 B3 d3 A4 c4 B4 d4 hk hc h1 h2 => by
    have := HOk.out.1.2
    rw [sumTo_succ]
    exact ratioAdd_any _ _ 100 A3 c3 B3 d3 A4 c4 B4 d4 W h1 h2 (rb_mono (by omega) (sumTo_rb (k := k) fun j hj => fr_rb (hc j (by omega)).2)) (rb_mono (by decide) (fr_rb (hc k (by omega)).2)) (by decide))
  have HE1 := Lib.hid (show ∀ (W : World) (A3 : Option Addr) (c3 : Nat) (B3 : Option Addr) (d3 : Nat) (A4 : Option Addr) (c4 : Nat) (B4 : Option Addr) (d4 : Nat), (∀ j, j < ls.length → CuOk (cs.getD j default)) → RatAt W A3 c3 B3 d3 (sumTo (cuPr cs) ls.length) → RatAt W A4 c4 B4 d4 (((p : Int) : Rat)) → Calls Tryz.prog 23 #[.agg #[.int .i64 (signD (sumTo (cuPr cs) ls.length).num), .slice A3 (dl (sumTo (cuPr cs) ls.length).num) c3, .int .i64 (signD ((sumTo (cuPr cs) ls.length).den : Int)), .slice B3 (dl ((sumTo (cuPr cs) ls.length).den : Int)) d3], .agg #[.int .i64 (signD (((p : Int) : Rat)).num), .slice A4 (dl (((p : Int) : Rat)).num) c4, .int .i64 (signD ((((p : Int) : Rat)).den : Int)), .slice B4 (dl ((((p : Int) : Rat)).den : Int)) d4]] W (fun e w' => e = .returned (.int .i64 (signD ((sumTo (cuPr cs) ls.length).num * ((((p : Int) : Rat)).den : Int) - (((p : Int) : Rat)).num * ((sumTo (cuPr cs) ls.length).den : Int)))) ∧ Below W.heap.size W w') from fun W A3 c3 B3 d3 A4 c4 B4 d4 hc h1 h2 => by
    have := HOk.out.1.2
    exact ratioCmp_any _ _ 100 A3 c3 B3 d3 A4 c4 B4 d4 W h1 h2 (rb_mono (by omega) (sumTo_rb (k := ls.length) fun j hj => fr_rb (hc j hj).1)) (rb_mono (by decide) (rb_int (n := p) (by omega))) (by decide))
  have HE2 := Lib.hid (show ∀ (W : World) (A3 : Option Addr) (c3 : Nat) (B3 : Option Addr) (d3 : Nat) (A4 : Option Addr) (c4 : Nat) (B4 : Option Addr) (d4 : Nat), (∀ j, j < ls.length → CuOk (cs.getD j default)) → RatAt W A3 c3 B3 d3 (sumTo (cuQr cs) ls.length) → RatAt W A4 c4 B4 d4 (((q : Int) : Rat)) → Calls Tryz.prog 23 #[.agg #[.int .i64 (signD (sumTo (cuQr cs) ls.length).num), .slice A3 (dl (sumTo (cuQr cs) ls.length).num) c3, .int .i64 (signD ((sumTo (cuQr cs) ls.length).den : Int)), .slice B3 (dl ((sumTo (cuQr cs) ls.length).den : Int)) d3], .agg #[.int .i64 (signD (((q : Int) : Rat)).num), .slice A4 (dl (((q : Int) : Rat)).num) c4, .int .i64 (signD ((((q : Int) : Rat)).den : Int)), .slice B4 (dl ((((q : Int) : Rat)).den : Int)) d4]] W (fun e w' => e = .returned (.int .i64 (signD ((sumTo (cuQr cs) ls.length).num * ((((q : Int) : Rat)).den : Int) - (((q : Int) : Rat)).num * ((sumTo (cuQr cs) ls.length).den : Int)))) ∧ Below W.heap.size W w') from fun W A3 c3 B3 d3 A4 c4 B4 d4 hc h1 h2 => by
    have := HOk.out.1.2
    exact ratioCmp_any _ _ 100 A3 c3 B3 d3 A4 c4 B4 d4 W h1 h2 (rb_mono (by omega) (sumTo_rb (k := ls.length) fun j hj => fr_rb (hc j hj).2)) (rb_mono (by decide) (rb_int (n := q) (by omega))) (by decide))
  have HOs := Lib.hid (fun hz => open_sum (p := p) (q := q) hok (cs := cs) hz)
  have n9 : (ls.length : Int) ≤ 4 := by have := hok.1.2; omega
  have n0 : (0 : Int) < (ls.length : Int) := by have := hok.1.1; omega
  have n00 : 0 < ls.length := hok.1.1
  generalize ((p : Int) : Rat) = xp at *
  generalize ((q : Int) : Rat) = xq at *
  clear hr hr2 hok h64 hl hlp hlq hbA hbC hAc hCc hRv
  go_enter Tryz.func13, Tryz.ntmps13
  go_wp2_with (first
    | (go_at_call 25; (with_reducible refine (HI0.out _).mono ?_); rintro e w1 ⟨A8, c8, B8, d8, rfl, h1, hb1⟩; have Q1 := Lib.hid hb1; have H1 := Lib.hid h1; clear hb1 h1 HI0; unfold ratV)
    | (go_at_call 25; (with_reducible refine (HI1.out _).mono ?_); rintro e w2 ⟨A9, c9, B9, d9, rfl, h2, hb2⟩; have Q2 := Lib.hid (pt Q1.out hb2); have H1 := Lib.hid (H1.out.past hb2); have H2 := Lib.hid h2; clear hb2 h2 HI1; unfold ratV))
  have HV := Lib.hid (show Below w.heap.size w (w.alloc (.cells #[.int .i64 p, .int .i64 q] 24)) from pa pr)
  have HBx := Lib.hid (show Blk (w.alloc (.cells #[.int .i64 p, .int .i64 q] 24)) w.heap.size 24 #[.int .i64 p, .int .i64 q] from Blk.newAt rfl)
  have HS0 := Lib.hid (show ShrSt (w.alloc (.cells #[.int .i64 p, .int .i64 q] 24)) (sumTo (cuPr cs) 0) (sumTo (cuQr cs) 0) w2.heap.size (w2.heap.size + 1) A8 c8 B8 d8 A9 c9 B9 d9 ((w2.alloc (.cells #[.int .i64 (signD ((sumTo (cuPr cs) 0)).num), .slice A8 (dl ((sumTo (cuPr cs) 0)).num) c8, .int .i64 (signD (((sumTo (cuPr cs) 0)).den : Int)), .slice B8 (dl (((sumTo (cuPr cs) 0)).den : Int)) d8] 55)).alloc (.cells #[.int .i64 (signD ((sumTo (cuQr cs) 0)).num), .slice A9 (dl ((sumTo (cuQr cs) 0)).num) c9, .int .i64 (signD (((sumTo (cuQr cs) 0)).den : Int)), .slice B9 (dl (((sumTo (cuQr cs) 0)).den : Int)) d9] 55)) from ⟨(Blk.newAt rfl).alloc, Blk.newAt (by simp), H1.out.past (pa (pa pr)), H2.out.past (pa (pa pr)), pa (pa Q2.out)⟩)
  have HB7 := Lib.hid (show (w.alloc (.cells #[.int .i64 p, .int .i64 q] 24)).heap.size ≤ w2.heap.size from Q2.out.size)
  generalize ((w2.alloc (.cells #[.int .i64 (signD ((sumTo (cuPr cs) 0)).num), .slice A8 (dl ((sumTo (cuPr cs) 0)).num) c8, .int .i64 (signD (((sumTo (cuPr cs) 0)).den : Int)), .slice B8 (dl (((sumTo (cuPr cs) 0)).den : Int)) d8] 55)).alloc (.cells #[.int .i64 (signD ((sumTo (cuQr cs) 0)).num), .slice A9 (dl ((sumTo (cuQr cs) 0)).num) c9, .int .i64 (signD (((sumTo (cuQr cs) 0)).den : Int)), .slice B9 (dl (((sumTo (cuQr cs) 0)).den : Int)) d9] 55)) = v0 at *
  generalize (w.alloc (.cells #[.int .i64 p, .int .i64 q] 24)) = v at *
  clear H1 H2 Q1 Q2
  generalize w2.heap.size = b7 at *
  have HB8 := Lib.hid (show b7 < b7 + 1 from Nat.lt_succ_self b7)
  generalize b7 + 1 = b8 at *
  as_aux_lemma =>
  go_loopw [10] (fun iv wr => ∃ (k : Nat) (A1 : Option Addr) (c1 : Nat) (B1 : Option Addr) (d1 : Nat) (A2 : Option Addr) (c2 : Nat) (B2 : Option Addr) (d2 : Nat), iv = .int .i64 (k : Int) ∧ k ≤ ls.length ∧ (∀ j, j < k → curEs ls cs j = 0) ∧ ShrSt v (sumTo (cuPr cs) k) (sumTo (cuQr cs) k) b7 b8 A1 c1 B1 d1 A2 c2 B2 d2 wr) (fun iv _ => ls.length - (intOf iv).toNat)
  case atStart => exact ⟨0, A8, c8, B8, d8, A9, c9, B9, d9, rfl, Nat.zero_le _, (fun j hj => absurd hj (Nat.not_lt_zero _)), HS0.out⟩
  case round =>
    clear HS0
    obtain ⟨k, A1, c1, B1, d1, A2, c2, B2, d2, rfl, hk, hz, hst⟩ := hrel
    have HST := Lib.hid hst
    have HZ := Lib.hid hz
    have i0 := src_cast k
    have HW := Lib.hid (HV.out.trans (hst.bel.mono HV.out.size))
    clear hst hz
    by_cases hlt : k < ls.length
    · as_aux_lemma =>
      have i1 := src_lt hlt
      have HI := Lib.hid hlt
      have HBad := Lib.hid (fun e (he : curEs ls cs k = e) (h0 : ¬ e = 0) => Prod.mk.inj (HRv.out.symm.trans (chk_bad (p := p) (q := q) HL.out HZ.out hlt he h0)))
      have HEs := Lib.hid (show curEs ls cs k = curE (ls.getD k default) (ls.getD 0 default) (cs.getD k default) (cs.getD 0 default) from rfl)
      have HB0 := Lib.hid (show CuOk (cs.getD k default) → CuOk (cs.getD 0 default) from fun h => by
        rcases Nat.eq_zero_or_pos k with h0 | h0
        · rw [h0] at h; exact h
        · exact (curE_ok (HZ.out 0 h0)).1)
      have HOkk := Lib.hid (show CuOk (cs.getD k default) → ∀ j, j < k + 1 → CuOk (cs.getD j default) from fun h j hj => by
        rcases Nat.lt_succ_iff_lt_or_eq.1 hj with h1 | h1
        · exact (curE_ok (HZ.out j h1)).1
        · rw [h1]; exact h)
      have HZn := Lib.hid (show curEs ls cs k = 0 → ∀ j, j < k + 1 → curEs ls cs j = 0 from fun h j hj => by
        rcases Nat.lt_succ_iff_lt_or_eq.1 hj with h1 | h1
        · exact HZ.out j h1
        · rw [h1]; exact h)
      have hSs := HOk.out.at_ hlt
      have hSt := HOk.out.at_ HOk.out.1.1
      have hc64 := H64.out _ (cu_mem (by rw [HL.out]; exact hlt))
      have hcp : cuPr cs k = Rat.divInt (cs.getD k default).pn (cs.getD k default).pd := rfl
      have hcq : cuQr cs k = Rat.divInt (cs.getD k default).qn (cs.getD k default).qd := rfl
      have HAk := fun W (hW : Below wr.heap.size wr W) => HAc.out W (HW.out.trans (hW.mono HW.out.size)) k hlt
      have HA0 := fun W (hW : Below wr.heap.size wr W) => HAc.out W (HW.out.trans (hW.mono HW.out.size)) 0 HOk.out.1.1
      have HCk := fun W (hW : Below wr.heap.size wr W) => HCc.out W (HW.out.trans (hW.mono HW.out.size)) k hlt
      have HC0 := fun W (hW : Below wr.heap.size wr W) => HCc.out W (HW.out.trans (hW.mono HW.out.size)) 0 HOk.out.1.1
      have HX1 := Lib.hid (fun W A3 c3 B3 d3 A4 c4 B4 d4 hc => HA1.out W k A3 c3 B3 d3 A4 c4 B4 d4 hlt hc)
      have HX2 := Lib.hid (fun W A3 c3 B3 d3 A4 c4 B4 d4 hc => HA2.out W k A3 c3 B3 d3 A4 c4 B4 d4 hlt hc)
      clear HA1 HA2 HE1 HE2 HIp HIq HOs HAc HCc HZ HRv HBx
      generalize curEs ls cs k = E at *
      generalize ls.getD k default = s at *
      generalize ls.getD 0 default = t at *
      generalize cs.getD k default = cc at *
      generalize cs.getD 0 default = b0 at *
      generalize hXE : sumTo (cuPr cs) (k + 1) = X' at *
      generalize hYE : sumTo (cuQr cs) (k + 1) = Y' at *
      have HXE := Lib.hid hXE
      have HYE := Lib.hid hYE
      clear hXE hYE
      generalize sumTo (cuPr cs) k = X at *
      generalize sumTo (cuQr cs) k = Y at *
      generalize hz1 : cuPr cs k = z1 at *
      generalize hz2 : cuQr cs k = z2 at *
      obtain ⟨sp, sq, sn, sd⟩ := s
      obtain ⟨tp, tq, tn, td⟩ := t
      obtain ⟨pn, pz, qn, qd⟩ := cc
      obtain ⟨pn0, pz0, qn0, qd0⟩ := b0
      have HSs := Lib.hid hSs
      have HSt := Lib.hid hSt
      have Hcp := Lib.hid (show z1 = Rat.divInt pn pz from hcp)
      have Hcq := Lib.hid (show z2 = Rat.divInt qn qd from hcq)
      have Hz := Lib.hid (And.intro hz1 hz2)
      have HCC := Lib.hid (show ∀ W, Below wr.heap.size wr W → W.cell? ⟨bC, oC + k * 4, none⟩ = some (.int .i64 pn) ∧ W.cell? ⟨bC, oC + k * 4 + 1, none⟩ = some (.int .i64 pz) ∧ W.cell? ⟨bC, oC + k * 4 + 2, none⟩ = some (.int .i64 qn) ∧ W.cell? ⟨bC, oC + k * 4 + 3, none⟩ = some (.int .i64 qd) from fun W hW => HCk W hW)
      have HCell := Lib.hid (show ∀ W, Below wr.heap.size wr W → W.cell? ⟨bA, oA + k * 4, none⟩ = some (.int .i64 sp) ∧ W.cell? ⟨bA, oA + k * 4 + 1, none⟩ = some (.int .i64 sq) ∧ W.cell? ⟨bA, oA + k * 4 + 2, none⟩ = some (.int .i64 sn) ∧ W.cell? ⟨bA, oA + k * 4 + 3, none⟩ = some (.int .i64 sd) ∧ W.cell? ⟨bA, oA, none⟩ = some (.int .i64 tp) ∧ W.cell? ⟨bA, oA + 1, none⟩ = some (.int .i64 tq) ∧ W.cell? ⟨bA, oA + 2, none⟩ = some (.int .i64 tn) ∧ W.cell? ⟨bA, oA + 3, none⟩ = some (.int .i64 td) ∧ W.cell? ⟨bC, oC + k * 4, none⟩ = some (.int .i64 pn) ∧ W.cell? ⟨bC, oC + k * 4 + 1, none⟩ = some (.int .i64 pz) ∧ W.cell? ⟨bC, oC + k * 4 + 2, none⟩ = some (.int .i64 qn) ∧ W.cell? ⟨bC, oC + k * 4 + 3, none⟩ = some (.int .i64 qd) ∧ W.cell? ⟨bC, oC, none⟩ = some (.int .i64 pn0) ∧ W.cell? ⟨bC, oC + 1, none⟩ = some (.int .i64 pz0) ∧ W.cell? ⟨bC, oC + 2, none⟩ = some (.int .i64 qn0) ∧ W.cell? ⟨bC, oC + 3, none⟩ = some (.int .i64 qd0) from fun W hW => by
        obtain ⟨a1, a2, a3, a4⟩ := HAk W hW
        obtain ⟨e1, e2, e3, e4⟩ := HA0 W hW
        obtain ⟨g1, g2, g3, g4⟩ := HCk W hW
        obtain ⟨k1, k2, k3, k4⟩ := HC0 W hW
        simp only [Nat.zero_mul, Nat.add_zero] at e1 e2 e3 e4 k1 k2 k3 k4
        exact ⟨a1, a2, a3, a4, e1, e2, e3, e4, g1, g2, g3, g4, k1, k2, k3, k4⟩)
      have HL1 := Lib.hid (fun W => refIsLowest_all pn pz hc64.1 hc64.2.1 W)
      have HL2 := Lib.hid (fun W => refIsLowest_all qn qd hc64.2.2.1 hc64.2.2.2 W)
      have HM1 := Lib.hid (fun W => isSmall_any pn pz W)
      have HM2 := Lib.hid (fun W => isSmall_any qn qd W)
      obtain ⟨u0, u1, u2, u3⟩ := HCC.out wr pr
      clear HAk HA0 HCk HC0 hSs hSt hc64 hcp hcq hz1 hz2
      generalize he1 : lowestB pn pz = e1 at *
      generalize he2 : lowestB qn qd = e2 at *
      generalize he3 : fsmallB pn pz = e3 at *
      generalize he4 : fsmallB qn qd = e4 at *
      have G1 := Lib.hid he1
      have G2 := Lib.hid he2
      have G3 := Lib.hid he3
      have G4 := Lib.hid he4
      clear he1 he2 he3 he4
      cases e1
      · as_aux_lemma =>
        have HR := HBad.out 3 (HEs.out.trans (curE_low1 G1.out)) (by decide)
        have HR1 := Lib.hid HR.1.symm
        have HR2 := Lib.hid HR.2.symm
        clear HR
        go_wp2_with (first
          | (go_at_call 21; (with_reducible refine (HL1.out _).mono ?_); rintro e w1 ⟨rfl, hb⟩; have Q1 := Lib.hid (hb); clear hb u0 u1 u2 u3 HL1; obtain ⟨u0, u1, u2, u3⟩ := HCC.out _ Q1.out))
        go_ret2
        exact ⟨ret_ii HR1.out HR2.out, HW.out.trans (Q1.out.mono HW.out.size)⟩
      · as_aux_lemma =>
        cases e2
        · as_aux_lemma =>
          have HR := HBad.out 3 (HEs.out.trans (curE_low2 G1.out G2.out)) (by decide)
          have HR1 := Lib.hid HR.1.symm
          have HR2 := Lib.hid HR.2.symm
          clear HR
          go_wp2_with (first
            | (go_at_call 21; (with_reducible refine (HL1.out _).mono ?_); rintro e w1 ⟨rfl, hb⟩; have Q1 := Lib.hid (hb); clear hb u0 u1 u2 u3 HL1; obtain ⟨u0, u1, u2, u3⟩ := HCC.out _ Q1.out)
            | (go_at_call 21; (with_reducible refine (HL2.out _).mono ?_); rintro e w2 ⟨rfl, hb⟩; have Q2 := Lib.hid (pt Q1.out hb); clear hb u0 u1 u2 u3 HL2; obtain ⟨u0, u1, u2, u3⟩ := HCC.out _ Q2.out))
          go_ret2
          exact ⟨ret_ii HR1.out HR2.out, HW.out.trans (Q2.out.mono HW.out.size)⟩
        · as_aux_lemma =>
          cases e3
          · as_aux_lemma =>
            have HR := HBad.out 2 (HEs.out.trans (curE_small1 G1.out G2.out G3.out)) (by decide)
            have HR1 := Lib.hid HR.1.symm
            have HR2 := Lib.hid HR.2.symm
            clear HR
            go_wp2_with (first
              | (go_at_call 21; (with_reducible refine (HL1.out _).mono ?_); rintro e w1 ⟨rfl, hb⟩; have Q1 := Lib.hid (hb); clear hb u0 u1 u2 u3 HL1; obtain ⟨u0, u1, u2, u3⟩ := HCC.out _ Q1.out)
              | (go_at_call 21; (with_reducible refine (HL2.out _).mono ?_); rintro e w2 ⟨rfl, hb⟩; have Q2 := Lib.hid (pt Q1.out hb); clear hb u0 u1 u2 u3 HL2; obtain ⟨u0, u1, u2, u3⟩ := HCC.out _ Q2.out)
              | (go_at_call 50; (with_reducible refine (HM1.out _).mono ?_); rintro e w3 ⟨rfl, hb⟩; have Q3 := Lib.hid (pt Q2.out hb); clear hb u0 u1 u2 u3 HM1; obtain ⟨u0, u1, u2, u3⟩ := HCC.out _ Q3.out))
            go_ret2
            exact ⟨ret_ii HR1.out HR2.out, HW.out.trans (Q3.out.mono HW.out.size)⟩
          · as_aux_lemma =>
            cases e4
            · as_aux_lemma =>
              have HR := HBad.out 2 (HEs.out.trans (curE_small2 G1.out G2.out G3.out G4.out)) (by decide)
              have HR1 := Lib.hid HR.1.symm
              have HR2 := Lib.hid HR.2.symm
              clear HR
              go_wp2_with (first
                | (go_at_call 21; (with_reducible refine (HL1.out _).mono ?_); rintro e w1 ⟨rfl, hb⟩; have Q1 := Lib.hid (hb); clear hb u0 u1 u2 u3 HL1; obtain ⟨u0, u1, u2, u3⟩ := HCC.out _ Q1.out)
                | (go_at_call 21; (with_reducible refine (HL2.out _).mono ?_); rintro e w2 ⟨rfl, hb⟩; have Q2 := Lib.hid (pt Q1.out hb); clear hb u0 u1 u2 u3 HL2; obtain ⟨u0, u1, u2, u3⟩ := HCC.out _ Q2.out)
                | (go_at_call 50; (with_reducible refine (HM1.out _).mono ?_); rintro e w3 ⟨rfl, hb⟩; have Q3 := Lib.hid (pt Q2.out hb); clear hb u0 u1 u2 u3 HM1; obtain ⟨u0, u1, u2, u3⟩ := HCC.out _ Q3.out)
                | (go_at_call 50; (with_reducible refine (HM2.out _).mono ?_); rintro e w4 ⟨rfl, hb⟩; have Q4 := Lib.hid (pt Q3.out hb); clear hb u0 u1 u2 u3 HM2; obtain ⟨u0, u1, u2, u3⟩ := HCC.out _ Q4.out))
              go_ret2
              exact ⟨ret_ii HR1.out HR2.out, HW.out.trans (Q4.out.mono HW.out.size)⟩
            · as_aux_lemma =>
              have hcu : CuOk ⟨pn, pz, qn, qd⟩ := ⟨fsmall_fr G1.out G3.out, fsmall_fr G2.out G4.out⟩
              have hcb := HB0.out hcu
              have HCu := Lib.hid hcu
              have hfP : FrOk pn pz := hcu.1
              have hfQ : FrOk qn qd := hcu.2
              have hfP0 : FrOk pn0 pz0 := hcb.1
              have hfQ0 : FrOk qn0 qd0 := hcb.2
              have ss := src_i64 HSs.out
              have tt := src_i64 HSt.out
              simp only at ss tt
              have D1 := Lib.hid (fun W => drop_any sp sq sn sd sp pn pz W ss.2.2.1 ss.2.2.2.1 ss.2.2.2.2 ss.1 (fr_i64 hfP).1 (fr_i64 hfP).2.1 (fr_i64 hfP).2.2)
              have rD1 := drop_rb ss.1 ss.2.2.1 ss.2.2.2.1 ss.2.2.2.2 hfP
              have eD1 := drop_busF (s := ⟨sp, sq, sn, sd⟩) (v := sp) (n := pn) (d := pz) ss.2.2.2.2 (fr_i64 hfP).2.2
              simp only at eD1
              generalize hD1 : ((sp : Int) : Rat) - Rat.divInt sn sd * Rat.divInt pn pz = x1 at *
              clear hD1
              have D2 := Lib.hid (fun W => drop_any tp tq tn td tp pn0 pz0 W tt.2.2.1 tt.2.2.2.1 tt.2.2.2.2 tt.1 (fr_i64 hfP0).1 (fr_i64 hfP0).2.1 (fr_i64 hfP0).2.2)
              have rD2 := drop_rb tt.1 tt.2.2.1 tt.2.2.2.1 tt.2.2.2.2 hfP0
              have eD2 := drop_busF (s := ⟨tp, tq, tn, td⟩) (v := tp) (n := pn0) (d := pz0) tt.2.2.2.2 (fr_i64 hfP0).2.2
              simp only at eD2
              generalize hD2 : ((tp : Int) : Rat) - Rat.divInt tn td * Rat.divInt pn0 pz0 = x2 at *
              clear hD2
              have D3 := Lib.hid (fun W => drop_any sp sq sn sd sq qn qd W ss.2.2.1 ss.2.2.2.1 ss.2.2.2.2 ss.2.1 (fr_i64 hfQ).1 (fr_i64 hfQ).2.1 (fr_i64 hfQ).2.2)
              have rD3 := drop_rb ss.2.1 ss.2.2.1 ss.2.2.2.1 ss.2.2.2.2 hfQ
              have eD3 := drop_busF (s := ⟨sp, sq, sn, sd⟩) (v := sq) (n := qn) (d := qd) ss.2.2.2.2 (fr_i64 hfQ).2.2
              simp only at eD3
              generalize hD3 : ((sq : Int) : Rat) - Rat.divInt sn sd * Rat.divInt qn qd = x3 at *
              clear hD3
              have D4 := Lib.hid (fun W => drop_any tp tq tn td tq qn0 qd0 W tt.2.2.1 tt.2.2.2.1 tt.2.2.2.2 tt.2.1 (fr_i64 hfQ0).1 (fr_i64 hfQ0).2.1 (fr_i64 hfQ0).2.2)
              have rD4 := drop_rb tt.2.1 tt.2.2.1 tt.2.2.2.1 tt.2.2.2.2 hfQ0
              have eD4 := drop_busF (s := ⟨tp, tq, tn, td⟩) (v := tq) (n := qn0) (d := qd0) tt.2.2.2.2 (fr_i64 hfQ0).2.2
              simp only at eD4
              generalize hD4 : ((tq : Int) : Rat) - Rat.divInt tn td * Rat.divInt qn0 qd0 = x4 at *
              clear hD4
              have HK1 := Lib.hid (show ∀ (W : World) (A3 : Option Addr) (c3 : Nat) (B3 : Option Addr) (d3 : Nat) (A4 : Option Addr) (c4 : Nat) (B4 : Option Addr) (d4 : Nat), RatAt W A3 c3 B3 d3 (x1) → RatAt W A4 c4 B4 d4 (x2) → Calls Tryz.prog 23 #[.agg #[.int .i64 (signD (x1).num), .slice A3 (dl (x1).num) c3, .int .i64 (signD ((x1).den : Int)), .slice B3 (dl ((x1).den : Int)) d3], .agg #[.int .i64 (signD (x2).num), .slice A4 (dl (x2).num) c4, .int .i64 (signD ((x2).den : Int)), .slice B4 (dl ((x2).den : Int)) d4]] W (fun e w' => e = .returned (.int .i64 (signD ((x1).num * ((x2).den : Int) - (x2).num * ((x1).den : Int)))) ∧ Below W.heap.size W w') from fun W A3 c3 B3 d3 A4 c4 B4 d4 h1 h2 => ratioCmp_any _ _ 100 A3 c3 B3 d3 A4 c4 B4 d4 W h1 h2 rD1 rD2 (by decide))
              have hm1 := cmp_eq x1 x2
              generalize signD ((x1).num * ((x2).den : Int) - (x2).num * ((x1).den : Int)) = m1 at *
              have Hm1 := Lib.hid hm1
              clear hm1
              have HK2 := Lib.hid (show ∀ (W : World) (A3 : Option Addr) (c3 : Nat) (B3 : Option Addr) (d3 : Nat) (A4 : Option Addr) (c4 : Nat) (B4 : Option Addr) (d4 : Nat), RatAt W A3 c3 B3 d3 (x3) → RatAt W A4 c4 B4 d4 (x4) → Calls Tryz.prog 23 #[.agg #[.int .i64 (signD (x3).num), .slice A3 (dl (x3).num) c3, .int .i64 (signD ((x3).den : Int)), .slice B3 (dl ((x3).den : Int)) d3], .agg #[.int .i64 (signD (x4).num), .slice A4 (dl (x4).num) c4, .int .i64 (signD ((x4).den : Int)), .slice B4 (dl ((x4).den : Int)) d4]] W (fun e w' => e = .returned (.int .i64 (signD ((x3).num * ((x4).den : Int) - (x4).num * ((x3).den : Int)))) ∧ Below W.heap.size W w') from fun W A3 c3 B3 d3 A4 c4 B4 d4 h1 h2 => ratioCmp_any _ _ 100 A3 c3 B3 d3 A4 c4 B4 d4 W h1 h2 rD3 rD4 (by decide))
              have hm2 := cmp_eq x3 x4
              generalize signD ((x3).num * ((x4).den : Int) - (x4).num * ((x3).den : Int)) = m2 at *
              have Hm2 := Lib.hid hm2
              clear hm2
              have HN1 := Lib.hid (show ¬ m1 = 0 → E = 19 from fun h => HEs.out.trans (curE_bus1 HCu.out fun e => h (Hm1.out.2 (eD1.trans (e.trans eD2.symm)))))
              have HN2 := Lib.hid (show m1 = 0 → ¬ m2 = 0 → E = 19 from fun h1 h => HEs.out.trans (curE_bus2 HCu.out (eD1.symm.trans ((Hm1.out.1 h1).trans eD2)) fun e => h (Hm2.out.2 (eD3.trans (e.trans eD4.symm)))))
              have HN3 := Lib.hid (show m1 = 0 → m2 = 0 → E = 0 from fun h1 h2 => HEs.out.trans (curE_of HCu.out (eD1.symm.trans ((Hm1.out.1 h1).trans eD2)) (eD3.symm.trans ((Hm2.out.1 h2).trans eD4))))
              have HOkc := Lib.hid (HOkk.out hcu)
              have HF1 := Lib.hid (show ∀ W, Calls Tryz.prog 22 #[.agg #[.int .i64 pn, .int .i64 pz]] W (RatRet W z1) from fun W => by rw [Hcp.out]; exact ratioFrom_any pn pz W (fr_i64 hfP).1 (fr_i64 hfP).2.1 (fr_i64 hfP).2.2)
              have HF2 := Lib.hid (show ∀ W, Calls Tryz.prog 22 #[.agg #[.int .i64 qn, .int .i64 qd]] W (RatRet W z2) from fun W => by rw [Hcq.out]; exact ratioFrom_any qn qd W (fr_i64 hfQ).1 (fr_i64 hfQ).2.1 (fr_i64 hfQ).2.2)
              clear ss tt rD1 rD2 rD3 rD4 eD1 eD2 eD3 eD4 hfP hfQ hfP0 hfQ0 hcu hcb HCu HB0 HOkk HEs Hm1 Hm2 HSs HSt Hcp Hcq Hz G1 G2 G3 G4
              go_wp2_with (first
                | (go_at_call 21; (with_reducible refine (HL1.out _).mono ?_); rintro e w1 ⟨rfl, hb⟩; have Q1 := Lib.hid (hb); clear hb u0 u1 u2 u3 HL1; obtain ⟨u0, u1, u2, u3⟩ := HCC.out _ Q1.out)
                | (go_at_call 21; (with_reducible refine (HL2.out _).mono ?_); rintro e w2 ⟨rfl, hb⟩; have Q2 := Lib.hid (pt Q1.out hb); clear hb u0 u1 u2 u3 HL2; obtain ⟨u0, u1, u2, u3⟩ := HCC.out _ Q2.out)
                | (go_at_call 50; (with_reducible refine (HM1.out _).mono ?_); rintro e w3 ⟨rfl, hb⟩; have Q3 := Lib.hid (pt Q2.out hb); clear hb u0 u1 u2 u3 HM1; obtain ⟨u0, u1, u2, u3⟩ := HCC.out _ Q3.out)
                | (go_at_call 50; (with_reducible refine (HM2.out _).mono ?_); rintro e w4 ⟨rfl, hb⟩; have Q4 := Lib.hid (pt Q3.out hb); clear hb u0 u1 u2 u3 HM2; obtain ⟨u0, u1, u2, u3⟩ := HCC.out _ Q4.out))
              clear u0 u1 u2 u3
              have HSS := Lib.hid (show ∀ W, Below w4.heap.size w4 W → W.cell? ⟨bA, oA + k * 4, none⟩ = some (.int .i64 sp) ∧ W.cell? ⟨bA, oA + k * 4 + 1, none⟩ = some (.int .i64 sq) ∧ W.cell? ⟨bA, oA + k * 4 + 2, none⟩ = some (.int .i64 sn) ∧ W.cell? ⟨bA, oA + k * 4 + 3, none⟩ = some (.int .i64 sd) ∧ W.cell? ⟨bA, oA, none⟩ = some (.int .i64 tp) ∧ W.cell? ⟨bA, oA + 1, none⟩ = some (.int .i64 tq) ∧ W.cell? ⟨bA, oA + 2, none⟩ = some (.int .i64 tn) ∧ W.cell? ⟨bA, oA + 3, none⟩ = some (.int .i64 td) ∧ W.cell? ⟨bC, oC + k * 4, none⟩ = some (.int .i64 pn) ∧ W.cell? ⟨bC, oC + k * 4 + 1, none⟩ = some (.int .i64 pz) ∧ W.cell? ⟨bC, oC + k * 4 + 2, none⟩ = some (.int .i64 qn) ∧ W.cell? ⟨bC, oC + k * 4 + 3, none⟩ = some (.int .i64 qd) ∧ W.cell? ⟨bC, oC, none⟩ = some (.int .i64 pn0) ∧ W.cell? ⟨bC, oC + 1, none⟩ = some (.int .i64 pz0) ∧ W.cell? ⟨bC, oC + 2, none⟩ = some (.int .i64 qn0) ∧ W.cell? ⟨bC, oC + 3, none⟩ = some (.int .i64 qd0) from fun W hW => HCell.out W (pt Q4.out hW))
              refine wp_region_G 63 follows_mixed (fun W => W.cell? ⟨bA, oA + k * 4, none⟩ = some (.int .i64 sp) ∧ W.cell? ⟨bA, oA + k * 4 + 1, none⟩ = some (.int .i64 sq) ∧ W.cell? ⟨bA, oA + k * 4 + 2, none⟩ = some (.int .i64 sn) ∧ W.cell? ⟨bA, oA + k * 4 + 3, none⟩ = some (.int .i64 sd) ∧ W.cell? ⟨bA, oA, none⟩ = some (.int .i64 tp) ∧ W.cell? ⟨bA, oA + 1, none⟩ = some (.int .i64 tq) ∧ W.cell? ⟨bA, oA + 2, none⟩ = some (.int .i64 tn) ∧ W.cell? ⟨bA, oA + 3, none⟩ = some (.int .i64 td) ∧ W.cell? ⟨bC, oC + k * 4, none⟩ = some (.int .i64 pn) ∧ W.cell? ⟨bC, oC + k * 4 + 1, none⟩ = some (.int .i64 pz) ∧ W.cell? ⟨bC, oC + k * 4 + 2, none⟩ = some (.int .i64 qn) ∧ W.cell? ⟨bC, oC + k * 4 + 3, none⟩ = some (.int .i64 qd) ∧ W.cell? ⟨bC, oC, none⟩ = some (.int .i64 pn0) ∧ W.cell? ⟨bC, oC + 1, none⟩ = some (.int .i64 pz0) ∧ W.cell? ⟨bC, oC + 2, none⟩ = some (.int .i64 qn0) ∧ W.cell? ⟨bC, oC + 3, none⟩ = some (.int .i64 qd0)) (HSS.out _ (pd pr)) ?_
              intro hSd inv
              have HSd := Lib.hid hSd
              clear hSd
              have HB0 := Lib.hid (show Below w4.heap.size w4 w4.drew from pd pr)
              refine wpAnyG_take (i := 0) (v := ?_) rfl (by kernel_rfl) (by kernel_rfl) (by kernel_rfl) (by kernel_rfl) (by kernel_rfl) (by decide) (by decide) inv (fun _ _ _ h => h) (Or.inl ⟨by rfl, ?_⟩) HSd.out ?_; rotate_left; (focus (intro W y1; obtain ⟨y1, y2, y3, y4, y5, y6, y7, y8, y9, y10, y11, y12, y13, y14, y15, y16⟩ := y1; go_simp; (first | done | with_reducible rfl))); clear inv; intro inv; simp only [List.getElem_toArray, List.getElem_cons_zero, Act.put, List.setIfInBounds_toArray, List.set_cons_zero, List.set_cons_succ]
              refine wpAnyG_take (i := 1) (v := ?_) rfl (by kernel_rfl) (by kernel_rfl) (by kernel_rfl) (by kernel_rfl) (by kernel_rfl) (by decide) (by decide) inv (fun _ _ _ h => h) (Or.inl ⟨by rfl, ?_⟩) HSd.out ?_; rotate_left; (focus (intro W y1; obtain ⟨y1, y2, y3, y4, y5, y6, y7, y8, y9, y10, y11, y12, y13, y14, y15, y16⟩ := y1; go_simp; (first | done | with_reducible rfl))); clear inv; intro inv; simp only [List.getElem_toArray, List.getElem_cons_zero, List.getElem_cons_succ, Act.put, List.setIfInBounds_toArray, List.set_cons_zero, List.set_cons_succ]
              refine wpAnyG_take (i := 2) (v := ?_) rfl (by kernel_rfl) (by kernel_rfl) (by kernel_rfl) (by kernel_rfl) (by kernel_rfl) (by decide) (by decide) inv (fun _ _ _ h => h) (Or.inl ⟨by rfl, ?_⟩) HSd.out ?_; rotate_left; (focus (intro W y1; obtain ⟨y1, y2, y3, y4, y5, y6, y7, y8, y9, y10, y11, y12, y13, y14, y15, y16⟩ := y1; go_simp; (first | done | with_reducible rfl))); clear inv; intro inv; simp only [List.getElem_toArray, List.getElem_cons_zero, List.getElem_cons_succ, Act.put, List.setIfInBounds_toArray, List.set_cons_zero, List.set_cons_succ]
              refine wpAnyG_take (i := 3) (v := ?_) rfl (by kernel_rfl) (by kernel_rfl) (by kernel_rfl) (by kernel_rfl) (by kernel_rfl) (by decide) (by decide) inv (fun _ _ _ h => h) (Or.inl ⟨by rfl, ?_⟩) HSd.out ?_; rotate_left; (focus (intro W y1; obtain ⟨y1, y2, y3, y4, y5, y6, y7, y8, y9, y10, y11, y12, y13, y14, y15, y16⟩ := y1; go_simp; (first | done | with_reducible rfl))); clear inv; intro inv; simp only [List.getElem_toArray, List.getElem_cons_zero, List.getElem_cons_succ, Act.put, List.setIfInBounds_toArray, List.set_cons_zero, List.set_cons_succ]
              refine wpAnyG_take (i := 4) (v := ?_) rfl (by kernel_rfl) (by kernel_rfl) (by kernel_rfl) (by kernel_rfl) (by kernel_rfl) (by decide) (by decide) inv (fun _ _ _ h => h) (Or.inl ⟨by rfl, ?_⟩) HSd.out ?_; rotate_left; (focus (intro W y1; obtain ⟨y1, y2, y3, y4, y5, y6, y7, y8, y9, y10, y11, y12, y13, y14, y15, y16⟩ := y1; go_simp; (first | done | with_reducible rfl))); clear inv; intro inv; simp only [List.getElem_toArray, List.getElem_cons_zero, List.getElem_cons_succ, Act.put, List.setIfInBounds_toArray, List.set_cons_zero, List.set_cons_succ]
              refine wpAnyG_take (i := 5) (v := ?_) rfl (by kernel_rfl) (by kernel_rfl) (by kernel_rfl) (by kernel_rfl) (by kernel_rfl) (by decide) (by decide) inv (fun _ _ _ h => h) (Or.inl ⟨by rfl, ?_⟩) HSd.out ?_; rotate_left; (focus (intro W y1; obtain ⟨y1, y2, y3, y4, y5, y6, y7, y8, y9, y10, y11, y12, y13, y14, y15, y16⟩ := y1; go_simp; (first | done | with_reducible rfl))); clear inv; intro inv; simp only [List.getElem_toArray, List.getElem_cons_zero, List.getElem_cons_succ, Act.put, List.setIfInBounds_toArray, List.set_cons_zero, List.set_cons_succ]
              refine wpAnyG_take (i := 6) (v := ?_) rfl (by kernel_rfl) (by kernel_rfl) (by kernel_rfl) (by kernel_rfl) (by kernel_rfl) (by decide) (by decide) inv (fun _ _ _ h => h) (Or.inl ⟨by rfl, ?_⟩) HSd.out ?_; rotate_left; (focus (intro W y1; obtain ⟨y1, y2, y3, y4, y5, y6, y7, y8, y9, y10, y11, y12, y13, y14, y15, y16⟩ := y1; go_simp; (first | done | with_reducible rfl))); clear inv; intro inv; simp only [List.getElem_toArray, List.getElem_cons_zero, List.getElem_cons_succ, Act.put, List.setIfInBounds_toArray, List.set_cons_zero, List.set_cons_succ]
              refine wpAnyG_take (i := 7) (v := ?_) rfl (by kernel_rfl) (by kernel_rfl) (by kernel_rfl) (by kernel_rfl) (by kernel_rfl) (by decide) (by decide) inv (fun _ _ _ h => h) (Or.inl ⟨by rfl, ?_⟩) HSd.out ?_; rotate_left; (focus (intro W y1; obtain ⟨y1, y2, y3, y4, y5, y6, y7, y8, y9, y10, y11, y12, y13, y14, y15, y16⟩ := y1; go_simp; (first | done | with_reducible rfl))); clear inv; intro inv; simp only [List.getElem_toArray, List.getElem_cons_zero, List.getElem_cons_succ, Act.put, List.setIfInBounds_toArray, List.set_cons_zero, List.set_cons_succ]
              refine wpAnyG_take (i := 8) (v := ?_) rfl (by kernel_rfl) (by kernel_rfl) (by kernel_rfl) (by kernel_rfl) (by kernel_rfl) (by decide) (by decide) inv (fun _ _ _ h => h) (Or.inl ⟨by rfl, ?_⟩) HSd.out ?_; rotate_left; (focus (intro W y1; obtain ⟨y1, y2, y3, y4, y5, y6, y7, y8, y9, y10, y11, y12, y13, y14, y15, y16⟩ := y1; go_simp; (first | done | with_reducible rfl))); clear inv; intro inv; simp only [List.getElem_toArray, List.getElem_cons_zero, List.getElem_cons_succ, Act.put, List.setIfInBounds_toArray, List.set_cons_zero, List.set_cons_succ]
              refine wpAnyG_take (i := 9) (v := ?_) rfl (by kernel_rfl) (by kernel_rfl) (by kernel_rfl) (by kernel_rfl) (by kernel_rfl) (by decide) (by decide) inv (fun _ _ _ h => h) (Or.inl ⟨by rfl, ?_⟩) HSd.out ?_; rotate_left; (focus (intro W y1; obtain ⟨y1, y2, y3, y4, y5, y6, y7, y8, y9, y10, y11, y12, y13, y14, y15, y16⟩ := y1; go_simp; (first | done | with_reducible rfl))); clear inv; intro inv; simp only [List.getElem_toArray, List.getElem_cons_zero, List.getElem_cons_succ, Act.put, List.setIfInBounds_toArray, List.set_cons_zero, List.set_cons_succ]
              refine wpAnyG_take (i := 10) (v := ?_) rfl (by kernel_rfl) (by kernel_rfl) (by kernel_rfl) (by kernel_rfl) (by kernel_rfl) (by decide) (by decide) inv (fun _ _ _ h => h) (Or.inl ⟨by rfl, ?_⟩) HSd.out ?_; rotate_left; (focus (intro W y1; obtain ⟨y1, y2, y3, y4, y5, y6, y7, y8, y9, y10, y11, y12, y13, y14, y15, y16⟩ := y1; go_simp; (first | done | with_reducible rfl))); clear inv; intro inv; simp only [List.getElem_toArray, List.getElem_cons_zero, List.getElem_cons_succ, Act.put, List.setIfInBounds_toArray, List.set_cons_zero, List.set_cons_succ]
              refine wpAnyG_take (i := 11) (v := ?_) rfl (by kernel_rfl) (by kernel_rfl) (by kernel_rfl) (by kernel_rfl) (by kernel_rfl) (by decide) (by decide) inv (fun _ _ _ h => h) (Or.inl ⟨by rfl, ?_⟩) HSd.out ?_; rotate_left; (focus (intro W y1; obtain ⟨y1, y2, y3, y4, y5, y6, y7, y8, y9, y10, y11, y12, y13, y14, y15, y16⟩ := y1; go_simp; (first | done | with_reducible rfl))); clear inv; intro inv; simp only [List.getElem_toArray, List.getElem_cons_zero, List.getElem_cons_succ, Act.put, List.setIfInBounds_toArray, List.set_cons_zero, List.set_cons_succ]
              refine wpAnyG_take (i := 12) (v := ?_) rfl (by kernel_rfl) (by kernel_rfl) (by kernel_rfl) (by kernel_rfl) (by kernel_rfl) (by decide) (by decide) inv (fun _ _ _ h => h) (Or.inl ⟨by rfl, ?_⟩) HSd.out ?_; rotate_left; (focus (intro W y1; obtain ⟨y1, y2, y3, y4, y5, y6, y7, y8, y9, y10, y11, y12, y13, y14, y15, y16⟩ := y1; go_simp; (first | done | with_reducible rfl))); clear inv; intro inv; simp only [List.getElem_toArray, List.getElem_cons_zero, List.getElem_cons_succ, Act.put, List.setIfInBounds_toArray, List.set_cons_zero, List.set_cons_succ]
              refine wpAnyG_take (i := 13) (v := ?_) rfl (by kernel_rfl) (by kernel_rfl) (by kernel_rfl) (by kernel_rfl) (by kernel_rfl) (by decide) (by decide) inv (fun _ _ _ h => h) (Or.inl ⟨by rfl, ?_⟩) HSd.out ?_; rotate_left; (focus (intro W y1; obtain ⟨y1, y2, y3, y4, y5, y6, y7, y8, y9, y10, y11, y12, y13, y14, y15, y16⟩ := y1; go_simp; (first | done | with_reducible rfl))); clear inv; intro inv; simp only [List.getElem_toArray, List.getElem_cons_zero, List.getElem_cons_succ, Act.put, List.setIfInBounds_toArray, List.set_cons_zero, List.set_cons_succ]
              refine wpAnyG_take (i := 14) (v := ?_) rfl (by kernel_rfl) (by kernel_rfl) (by kernel_rfl) (by kernel_rfl) (by kernel_rfl) (by decide) (by decide) inv (fun _ _ _ h => h) (Or.inl ⟨by rfl, ?_⟩) HSd.out ?_; rotate_left; (focus (intro W y1; obtain ⟨y1, y2, y3, y4, y5, y6, y7, y8, y9, y10, y11, y12, y13, y14, y15, y16⟩ := y1; go_simp; (first | done | with_reducible rfl))); clear inv; intro inv; simp only [List.getElem_toArray, List.getElem_cons_zero, List.getElem_cons_succ, Act.put, List.setIfInBounds_toArray, List.set_cons_zero, List.set_cons_succ]
              refine wpAnyG_take (i := 16) (v := ?_) rfl (by kernel_rfl) (by kernel_rfl) (by kernel_rfl) (by kernel_rfl) (by kernel_rfl) (by decide) (by decide) inv (fun _ _ _ h => h) (Or.inl ⟨by rfl, ?_⟩) HSd.out ?_; rotate_left; (focus (intro W y1; obtain ⟨y1, y2, y3, y4, y5, y6, y7, y8, y9, y10, y11, y12, y13, y14, y15, y16⟩ := y1; go_simp; (first | done | with_reducible rfl))); clear inv; intro inv; simp only [List.getElem_toArray, List.getElem_cons_zero, List.getElem_cons_succ, Act.put, List.setIfInBounds_toArray, List.set_cons_zero, List.set_cons_succ]
              refine wpAnyG_take (i := 17) (v := ?_) rfl (by kernel_rfl) (by kernel_rfl) (by kernel_rfl) (by kernel_rfl) (by kernel_rfl) (by decide) (by decide) inv (fun _ _ _ h => h) (Or.inl ⟨by rfl, ?_⟩) HSd.out ?_; rotate_left; (focus (intro W y1; obtain ⟨y1, y2, y3, y4, y5, y6, y7, y8, y9, y10, y11, y12, y13, y14, y15, y16⟩ := y1; go_simp; (first | done | with_reducible rfl))); clear inv; intro inv; simp only [List.getElem_toArray, List.getElem_cons_zero, List.getElem_cons_succ, Act.put, List.setIfInBounds_toArray, List.set_cons_zero, List.set_cons_succ]
              refine wpAnyG_take (i := 18) (v := ?_) rfl (by kernel_rfl) (by kernel_rfl) (by kernel_rfl) (by kernel_rfl) (by kernel_rfl) (by decide) (by decide) inv (fun _ _ _ h => h) (Or.inl ⟨by rfl, ?_⟩) HSd.out ?_; rotate_left; (focus (intro W y1; obtain ⟨y1, y2, y3, y4, y5, y6, y7, y8, y9, y10, y11, y12, y13, y14, y15, y16⟩ := y1; go_simp; (first | done | with_reducible rfl))); clear inv; intro inv; simp only [List.getElem_toArray, List.getElem_cons_zero, List.getElem_cons_succ, Act.put, List.setIfInBounds_toArray, List.set_cons_zero, List.set_cons_succ]
              refine wpAnyG_take (i := 19) (v := ?_) rfl (by kernel_rfl) (by kernel_rfl) (by kernel_rfl) (by kernel_rfl) (by kernel_rfl) (by decide) (by decide) inv (fun _ _ _ h => h) (Or.inl ⟨by rfl, ?_⟩) HSd.out ?_; rotate_left; (focus (intro W y1; obtain ⟨y1, y2, y3, y4, y5, y6, y7, y8, y9, y10, y11, y12, y13, y14, y15, y16⟩ := y1; go_simp; (first | done | with_reducible rfl))); clear inv; intro inv; simp only [List.getElem_toArray, List.getElem_cons_zero, List.getElem_cons_succ, Act.put, List.setIfInBounds_toArray, List.set_cons_zero, List.set_cons_succ]
              refine wpAnyG_take (i := 20) (v := ?_) rfl (by kernel_rfl) (by kernel_rfl) (by kernel_rfl) (by kernel_rfl) (by kernel_rfl) (by decide) (by decide) inv (fun _ _ _ h => h) (Or.inl ⟨by rfl, ?_⟩) HSd.out ?_; rotate_left; (focus (intro W y1; obtain ⟨y1, y2, y3, y4, y5, y6, y7, y8, y9, y10, y11, y12, y13, y14, y15, y16⟩ := y1; go_simp; (first | done | with_reducible rfl))); clear inv; intro inv; simp only [List.getElem_toArray, List.getElem_cons_zero, List.getElem_cons_succ, Act.put, List.setIfInBounds_toArray, List.set_cons_zero, List.set_cons_succ]
              refine wpAnyG_take (i := 21) (v := ?_) rfl (by kernel_rfl) (by kernel_rfl) (by kernel_rfl) (by kernel_rfl) (by kernel_rfl) (by decide) (by decide) inv (fun _ _ _ h => h) (Or.inl ⟨by rfl, ?_⟩) HSd.out ?_; rotate_left; (focus (intro W y1; obtain ⟨y1, y2, y3, y4, y5, y6, y7, y8, y9, y10, y11, y12, y13, y14, y15, y16⟩ := y1; go_simp; (first | done | with_reducible rfl))); clear inv; intro inv; simp only [List.getElem_toArray, List.getElem_cons_zero, List.getElem_cons_succ, Act.put, List.setIfInBounds_toArray, List.set_cons_zero, List.set_cons_succ]
              refine wpAnyG_take (i := 22) (v := ?_) rfl (by kernel_rfl) (by kernel_rfl) (by kernel_rfl) (by kernel_rfl) (by kernel_rfl) (by decide) (by decide) inv (fun _ _ _ h => h) (Or.inl ⟨by rfl, ?_⟩) HSd.out ?_; rotate_left; (focus (intro W y1; obtain ⟨y1, y2, y3, y4, y5, y6, y7, y8, y9, y10, y11, y12, y13, y14, y15, y16⟩ := y1; go_simp; (first | done | with_reducible rfl))); clear inv; intro inv; simp only [List.getElem_toArray, List.getElem_cons_zero, List.getElem_cons_succ, Act.put, List.setIfInBounds_toArray, List.set_cons_zero, List.set_cons_succ]
              refine wpAnyG_take (i := 23) (v := ?_) rfl (by kernel_rfl) (by kernel_rfl) (by kernel_rfl) (by kernel_rfl) (by kernel_rfl) (by decide) (by decide) inv (fun _ _ _ h => h) (Or.inl ⟨by rfl, ?_⟩) HSd.out ?_; rotate_left; (focus (intro W y1; obtain ⟨y1, y2, y3, y4, y5, y6, y7, y8, y9, y10, y11, y12, y13, y14, y15, y16⟩ := y1; go_simp; (first | done | with_reducible rfl))); clear inv; intro inv; simp only [List.getElem_toArray, List.getElem_cons_zero, List.getElem_cons_succ, Act.put, List.setIfInBounds_toArray, List.set_cons_zero, List.set_cons_succ]
              refine wpAnyG_take (i := 24) (v := ?_) rfl (by kernel_rfl) (by kernel_rfl) (by kernel_rfl) (by kernel_rfl) (by kernel_rfl) (by decide) (by decide) inv (fun _ _ _ h => h) (Or.inl ⟨by rfl, ?_⟩) HSd.out ?_; rotate_left; (focus (intro W y1; obtain ⟨y1, y2, y3, y4, y5, y6, y7, y8, y9, y10, y11, y12, y13, y14, y15, y16⟩ := y1; go_simp; (first | done | with_reducible rfl))); clear inv; intro inv; simp only [List.getElem_toArray, List.getElem_cons_zero, List.getElem_cons_succ, Act.put, List.setIfInBounds_toArray, List.set_cons_zero, List.set_cons_succ]
              refine wpAnyG_take (i := 25) (v := ?_) rfl (by kernel_rfl) (by kernel_rfl) (by kernel_rfl) (by kernel_rfl) (by kernel_rfl) (by decide) (by decide) inv (fun _ _ _ h => h) (Or.inl ⟨by rfl, ?_⟩) HSd.out ?_; rotate_left; (focus (intro W y1; obtain ⟨y1, y2, y3, y4, y5, y6, y7, y8, y9, y10, y11, y12, y13, y14, y15, y16⟩ := y1; go_simp; (first | done | with_reducible rfl))); clear inv; intro inv; simp only [List.getElem_toArray, List.getElem_cons_zero, List.getElem_cons_succ, Act.put, List.setIfInBounds_toArray, List.set_cons_zero, List.set_cons_succ]
              refine wpAnyG_take (i := 26) (v := ?_) rfl (by kernel_rfl) (by kernel_rfl) (by kernel_rfl) (by kernel_rfl) (by kernel_rfl) (by decide) (by decide) inv (fun _ _ _ h => h) (Or.inl ⟨by rfl, ?_⟩) HSd.out ?_; rotate_left; (focus (intro W y1; obtain ⟨y1, y2, y3, y4, y5, y6, y7, y8, y9, y10, y11, y12, y13, y14, y15, y16⟩ := y1; go_simp; (first | done | with_reducible rfl))); clear inv; intro inv; simp only [List.getElem_toArray, List.getElem_cons_zero, List.getElem_cons_succ, Act.put, List.setIfInBounds_toArray, List.set_cons_zero, List.set_cons_succ]
              refine wpAnyG_take (i := 27) (v := ?_) rfl (by kernel_rfl) (by kernel_rfl) (by kernel_rfl) (by kernel_rfl) (by kernel_rfl) (by decide) (by decide) inv (fun _ _ _ h => h) (Or.inl ⟨by rfl, ?_⟩) HSd.out ?_; rotate_left; (focus (intro W y1; obtain ⟨y1, y2, y3, y4, y5, y6, y7, y8, y9, y10, y11, y12, y13, y14, y15, y16⟩ := y1; go_simp; (first | done | with_reducible rfl))); clear inv; intro inv; simp only [List.getElem_toArray, List.getElem_cons_zero, List.getElem_cons_succ, Act.put, List.setIfInBounds_toArray, List.set_cons_zero, List.set_cons_succ]
              have HInv := Lib.hid inv
              clear inv
              refine wpAnyG_one (i := 15) (by kernel_rfl) rfl rfl fun K hK => ?_
              go_simp
              refine (D1.out _).mono ?_
              rintro e wa ⟨A5, c5, B5, d5, rfl, h5, hb⟩
              have HBx15 := Lib.hid (show Below w4.heap.size w4 wa from pt HB0.out hb)
              have R5 := Lib.hid h5
              clear h5
              unfold ratV
              refine hK.out _ _ (fun _ => HSS.out _ HBx15.out) ?_
              clear hK K hb
              replace HInv := Lib.hid (inv_one (i := 15) HInv.out (by kernel_rfl) (by decide))
              refine wpAnyG_one (i := 28) (by kernel_rfl) rfl rfl fun K hK => ?_
              go_simp
              refine (D2.out _).mono ?_
              rintro e wb ⟨A6, c6, B6, d6, rfl, h6, hb⟩
              have HBx28 := Lib.hid (show Below w4.heap.size w4 wb from pt HBx15.out hb)
              have R6 := Lib.hid h6
              have R5 := Lib.hid (R5.out.past hb)
              clear h6
              unfold ratV
              refine hK.out _ _ (fun _ => HSS.out _ HBx28.out) ?_
              clear hK K hb
              replace HInv := Lib.hid (inv_one (i := 28) HInv.out (by kernel_rfl) (by decide))
              refine wpAnyG_one (i := 29) (by kernel_rfl) rfl rfl fun K hK => ?_
              go_simp
              refine (HK1.out _ A5 c5 B5 d5 A6 c6 B6 d6 R5.out R6.out).mono ?_
              rintro e wc ⟨rfl, hb⟩
              have HBx29 := Lib.hid (show Below w4.heap.size w4 wc from pt HBx28.out hb)
              refine hK.out _ _ (fun _ => HSS.out _ HBx29.out) ?_
              clear hK K hb
              replace HInv := Lib.hid (inv_one (i := 29) HInv.out (by kernel_rfl) (by decide))
              clear HK1 D1 D2 R5 R6
              by_cases hm : m1 = 0
              · as_aux_lemma =>
                subst hm
                have inv := HInv.out
                clear HInv
                replace HSd := Lib.hid (HSS.out _ HBx29.out)
                refine wpAnyG_take (i := 30) (v := ?_) rfl (by kernel_rfl) (by kernel_rfl) (by kernel_rfl) (by kernel_rfl) (by kernel_rfl) (by decide) (by decide) inv (fun _ _ _ h => h) (Or.inl ⟨by rfl, ?_⟩) HSd.out ?_; rotate_left; (focus (intro W y1; obtain ⟨y1, y2, y3, y4, y5, y6, y7, y8, y9, y10, y11, y12, y13, y14, y15, y16⟩ := y1; go_simp; (first | done | with_reducible rfl))); clear inv; intro inv; simp only [List.getElem_toArray, List.getElem_cons_zero, List.getElem_cons_succ, Act.put, List.setIfInBounds_toArray, List.set_cons_zero, List.set_cons_succ]
                refine wpAnyG_take (i := 31) (v := ?_) rfl (by kernel_rfl) (by kernel_rfl) (by kernel_rfl) (by kernel_rfl) (by kernel_rfl) (by decide) (by decide) inv (fun _ _ _ h => h) (Or.inl ⟨by rfl, ?_⟩) HSd.out ?_; rotate_left; (focus (intro W y1; obtain ⟨y1, y2, y3, y4, y5, y6, y7, y8, y9, y10, y11, y12, y13, y14, y15, y16⟩ := y1; go_simp; (first | done | with_reducible rfl))); clear inv; intro inv; simp only [List.getElem_toArray, List.getElem_cons_zero, List.getElem_cons_succ, Act.put, List.setIfInBounds_toArray, List.set_cons_zero, List.set_cons_succ]
                refine wpAnyG_take (i := 32) (v := ?_) rfl (by kernel_rfl) (by kernel_rfl) (by kernel_rfl) (by kernel_rfl) (by kernel_rfl) (by decide) (by decide) inv (fun _ _ _ h => h) (Or.inl ⟨by rfl, ?_⟩) HSd.out ?_; rotate_left; (focus (intro W y1; obtain ⟨y1, y2, y3, y4, y5, y6, y7, y8, y9, y10, y11, y12, y13, y14, y15, y16⟩ := y1; go_simp; (first | done | with_reducible rfl))); clear inv; intro inv; simp only [List.getElem_toArray, List.getElem_cons_zero, List.getElem_cons_succ, Act.put, List.setIfInBounds_toArray, List.set_cons_zero, List.set_cons_succ]
                refine wpAnyG_take (i := 33) (v := ?_) rfl (by kernel_rfl) (by kernel_rfl) (by kernel_rfl) (by kernel_rfl) (by kernel_rfl) (by decide) (by decide) inv (fun _ _ _ h => h) (Or.inl ⟨by rfl, ?_⟩) HSd.out ?_; rotate_left; (focus (intro W y1; obtain ⟨y1, y2, y3, y4, y5, y6, y7, y8, y9, y10, y11, y12, y13, y14, y15, y16⟩ := y1; go_simp; (first | done | with_reducible rfl))); clear inv; intro inv; simp only [List.getElem_toArray, List.getElem_cons_zero, List.getElem_cons_succ, Act.put, List.setIfInBounds_toArray, List.set_cons_zero, List.set_cons_succ]
                refine wpAnyG_take (i := 34) (v := ?_) rfl (by kernel_rfl) (by kernel_rfl) (by kernel_rfl) (by kernel_rfl) (by kernel_rfl) (by decide) (by decide) inv (fun _ _ _ h => h) (Or.inl ⟨by rfl, ?_⟩) HSd.out ?_; rotate_left; (focus (intro W y1; obtain ⟨y1, y2, y3, y4, y5, y6, y7, y8, y9, y10, y11, y12, y13, y14, y15, y16⟩ := y1; go_simp; (first | done | with_reducible rfl))); clear inv; intro inv; simp only [List.getElem_toArray, List.getElem_cons_zero, List.getElem_cons_succ, Act.put, List.setIfInBounds_toArray, List.set_cons_zero, List.set_cons_succ]
                refine wpAnyG_take (i := 35) (v := ?_) rfl (by kernel_rfl) (by kernel_rfl) (by kernel_rfl) (by kernel_rfl) (by kernel_rfl) (by decide) (by decide) inv (fun _ _ _ h => h) (Or.inl ⟨by rfl, ?_⟩) HSd.out ?_; rotate_left; (focus (intro W y1; obtain ⟨y1, y2, y3, y4, y5, y6, y7, y8, y9, y10, y11, y12, y13, y14, y15, y16⟩ := y1; go_simp; (first | done | with_reducible rfl))); clear inv; intro inv; simp only [List.getElem_toArray, List.getElem_cons_zero, List.getElem_cons_succ, Act.put, List.setIfInBounds_toArray, List.set_cons_zero, List.set_cons_succ]
                refine wpAnyG_take (i := 36) (v := ?_) rfl (by kernel_rfl) (by kernel_rfl) (by kernel_rfl) (by kernel_rfl) (by kernel_rfl) (by decide) (by decide) inv (fun _ _ _ h => h) (Or.inl ⟨by rfl, ?_⟩) HSd.out ?_; rotate_left; (focus (intro W y1; obtain ⟨y1, y2, y3, y4, y5, y6, y7, y8, y9, y10, y11, y12, y13, y14, y15, y16⟩ := y1; go_simp; (first | done | with_reducible rfl))); clear inv; intro inv; simp only [List.getElem_toArray, List.getElem_cons_zero, List.getElem_cons_succ, Act.put, List.setIfInBounds_toArray, List.set_cons_zero, List.set_cons_succ]
                refine wpAnyG_take (i := 37) (v := ?_) rfl (by kernel_rfl) (by kernel_rfl) (by kernel_rfl) (by kernel_rfl) (by kernel_rfl) (by decide) (by decide) inv (fun _ _ _ h => h) (Or.inl ⟨by rfl, ?_⟩) HSd.out ?_; rotate_left; (focus (intro W y1; obtain ⟨y1, y2, y3, y4, y5, y6, y7, y8, y9, y10, y11, y12, y13, y14, y15, y16⟩ := y1; go_simp; (first | done | with_reducible rfl))); clear inv; intro inv; simp only [List.getElem_toArray, List.getElem_cons_zero, List.getElem_cons_succ, Act.put, List.setIfInBounds_toArray, List.set_cons_zero, List.set_cons_succ]
                refine wpAnyG_take (i := 38) (v := ?_) rfl (by kernel_rfl) (by kernel_rfl) (by kernel_rfl) (by kernel_rfl) (by kernel_rfl) (by decide) (by decide) inv (fun _ _ _ h => h) (Or.inl ⟨by rfl, ?_⟩) HSd.out ?_; rotate_left; (focus (intro W y1; obtain ⟨y1, y2, y3, y4, y5, y6, y7, y8, y9, y10, y11, y12, y13, y14, y15, y16⟩ := y1; go_simp; (first | done | with_reducible rfl))); clear inv; intro inv; simp only [List.getElem_toArray, List.getElem_cons_zero, List.getElem_cons_succ, Act.put, List.setIfInBounds_toArray, List.set_cons_zero, List.set_cons_succ]
                refine wpAnyG_take (i := 39) (v := ?_) rfl (by kernel_rfl) (by kernel_rfl) (by kernel_rfl) (by kernel_rfl) (by kernel_rfl) (by decide) (by decide) inv (fun _ _ _ h => h) (Or.inl ⟨by rfl, ?_⟩) HSd.out ?_; rotate_left; (focus (intro W y1; obtain ⟨y1, y2, y3, y4, y5, y6, y7, y8, y9, y10, y11, y12, y13, y14, y15, y16⟩ := y1; go_simp; (first | done | with_reducible rfl))); clear inv; intro inv; simp only [List.getElem_toArray, List.getElem_cons_zero, List.getElem_cons_succ, Act.put, List.setIfInBounds_toArray, List.set_cons_zero, List.set_cons_succ]
                refine wpAnyG_take (i := 40) (v := ?_) rfl (by kernel_rfl) (by kernel_rfl) (by kernel_rfl) (by kernel_rfl) (by kernel_rfl) (by decide) (by decide) inv (fun _ _ _ h => h) (Or.inl ⟨by rfl, ?_⟩) HSd.out ?_; rotate_left; (focus (intro W y1; obtain ⟨y1, y2, y3, y4, y5, y6, y7, y8, y9, y10, y11, y12, y13, y14, y15, y16⟩ := y1; go_simp; (first | done | with_reducible rfl))); clear inv; intro inv; simp only [List.getElem_toArray, List.getElem_cons_zero, List.getElem_cons_succ, Act.put, List.setIfInBounds_toArray, List.set_cons_zero, List.set_cons_succ]
                refine wpAnyG_take (i := 41) (v := ?_) rfl (by kernel_rfl) (by kernel_rfl) (by kernel_rfl) (by kernel_rfl) (by kernel_rfl) (by decide) (by decide) inv (fun _ _ _ h => h) (Or.inl ⟨by rfl, ?_⟩) HSd.out ?_; rotate_left; (focus (intro W y1; obtain ⟨y1, y2, y3, y4, y5, y6, y7, y8, y9, y10, y11, y12, y13, y14, y15, y16⟩ := y1; go_simp; (first | done | with_reducible rfl))); clear inv; intro inv; simp only [List.getElem_toArray, List.getElem_cons_zero, List.getElem_cons_succ, Act.put, List.setIfInBounds_toArray, List.set_cons_zero, List.set_cons_succ]
                refine wpAnyG_take (i := 42) (v := ?_) rfl (by kernel_rfl) (by kernel_rfl) (by kernel_rfl) (by kernel_rfl) (by kernel_rfl) (by decide) (by decide) inv (fun _ _ _ h => h) (Or.inl ⟨by rfl, ?_⟩) HSd.out ?_; rotate_left; (focus (intro W y1; obtain ⟨y1, y2, y3, y4, y5, y6, y7, y8, y9, y10, y11, y12, y13, y14, y15, y16⟩ := y1; go_simp; (first | done | with_reducible rfl))); clear inv; intro inv; simp only [List.getElem_toArray, List.getElem_cons_zero, List.getElem_cons_succ, Act.put, List.setIfInBounds_toArray, List.set_cons_zero, List.set_cons_succ]
                refine wpAnyG_take (i := 43) (v := ?_) rfl (by kernel_rfl) (by kernel_rfl) (by kernel_rfl) (by kernel_rfl) (by kernel_rfl) (by decide) (by decide) inv (fun _ _ _ h => h) (Or.inl ⟨by rfl, ?_⟩) HSd.out ?_; rotate_left; (focus (intro W y1; obtain ⟨y1, y2, y3, y4, y5, y6, y7, y8, y9, y10, y11, y12, y13, y14, y15, y16⟩ := y1; go_simp; (first | done | with_reducible rfl))); clear inv; intro inv; simp only [List.getElem_toArray, List.getElem_cons_zero, List.getElem_cons_succ, Act.put, List.setIfInBounds_toArray, List.set_cons_zero, List.set_cons_succ]
                refine wpAnyG_take (i := 44) (v := ?_) rfl (by kernel_rfl) (by kernel_rfl) (by kernel_rfl) (by kernel_rfl) (by kernel_rfl) (by decide) (by decide) inv (fun _ _ _ h => h) (Or.inl ⟨by rfl, ?_⟩) HSd.out ?_; rotate_left; (focus (intro W y1; obtain ⟨y1, y2, y3, y4, y5, y6, y7, y8, y9, y10, y11, y12, y13, y14, y15, y16⟩ := y1; go_simp; (first | done | with_reducible rfl))); clear inv; intro inv; simp only [List.getElem_toArray, List.getElem_cons_zero, List.getElem_cons_succ, Act.put, List.setIfInBounds_toArray, List.set_cons_zero, List.set_cons_succ]
                refine wpAnyG_take (i := 45) (v := ?_) rfl (by kernel_rfl) (by kernel_rfl) (by kernel_rfl) (by kernel_rfl) (by kernel_rfl) (by decide) (by decide) inv (fun _ _ _ h => h) (Or.inl ⟨by rfl, ?_⟩) HSd.out ?_; rotate_left; (focus (intro W y1; obtain ⟨y1, y2, y3, y4, y5, y6, y7, y8, y9, y10, y11, y12, y13, y14, y15, y16⟩ := y1; go_simp; (first | done | with_reducible rfl))); clear inv; intro inv; simp only [List.getElem_toArray, List.getElem_cons_zero, List.getElem_cons_succ, Act.put, List.setIfInBounds_toArray, List.set_cons_zero, List.set_cons_succ]
                refine wpAnyG_take (i := 46) (v := ?_) rfl (by kernel_rfl) (by kernel_rfl) (by kernel_rfl) (by kernel_rfl) (by kernel_rfl) (by decide) (by decide) inv (fun _ _ _ h => h) (Or.inl ⟨by rfl, ?_⟩) HSd.out ?_; rotate_left; (focus (intro W y1; obtain ⟨y1, y2, y3, y4, y5, y6, y7, y8, y9, y10, y11, y12, y13, y14, y15, y16⟩ := y1; go_simp; (first | done | with_reducible rfl))); clear inv; intro inv; simp only [List.getElem_toArray, List.getElem_cons_zero, List.getElem_cons_succ, Act.put, List.setIfInBounds_toArray, List.set_cons_zero, List.set_cons_succ]
                refine wpAnyG_take (i := 48) (v := ?_) rfl (by kernel_rfl) (by kernel_rfl) (by kernel_rfl) (by kernel_rfl) (by kernel_rfl) (by decide) (by decide) inv (fun _ _ _ h => h) (Or.inl ⟨by rfl, ?_⟩) HSd.out ?_; rotate_left; (focus (intro W y1; obtain ⟨y1, y2, y3, y4, y5, y6, y7, y8, y9, y10, y11, y12, y13, y14, y15, y16⟩ := y1; go_simp; (first | done | with_reducible rfl))); clear inv; intro inv; simp only [List.getElem_toArray, List.getElem_cons_zero, List.getElem_cons_succ, Act.put, List.setIfInBounds_toArray, List.set_cons_zero, List.set_cons_succ]
                refine wpAnyG_take (i := 49) (v := ?_) rfl (by kernel_rfl) (by kernel_rfl) (by kernel_rfl) (by kernel_rfl) (by kernel_rfl) (by decide) (by decide) inv (fun _ _ _ h => h) (Or.inl ⟨by rfl, ?_⟩) HSd.out ?_; rotate_left; (focus (intro W y1; obtain ⟨y1, y2, y3, y4, y5, y6, y7, y8, y9, y10, y11, y12, y13, y14, y15, y16⟩ := y1; go_simp; (first | done | with_reducible rfl))); clear inv; intro inv; simp only [List.getElem_toArray, List.getElem_cons_zero, List.getElem_cons_succ, Act.put, List.setIfInBounds_toArray, List.set_cons_zero, List.set_cons_succ]
                refine wpAnyG_take (i := 50) (v := ?_) rfl (by kernel_rfl) (by kernel_rfl) (by kernel_rfl) (by kernel_rfl) (by kernel_rfl) (by decide) (by decide) inv (fun _ _ _ h => h) (Or.inl ⟨by rfl, ?_⟩) HSd.out ?_; rotate_left; (focus (intro W y1; obtain ⟨y1, y2, y3, y4, y5, y6, y7, y8, y9, y10, y11, y12, y13, y14, y15, y16⟩ := y1; go_simp; (first | done | with_reducible rfl))); clear inv; intro inv; simp only [List.getElem_toArray, List.getElem_cons_zero, List.getElem_cons_succ, Act.put, List.setIfInBounds_toArray, List.set_cons_zero, List.set_cons_succ]
                refine wpAnyG_take (i := 51) (v := ?_) rfl (by kernel_rfl) (by kernel_rfl) (by kernel_rfl) (by kernel_rfl) (by kernel_rfl) (by decide) (by decide) inv (fun _ _ _ h => h) (Or.inl ⟨by rfl, ?_⟩) HSd.out ?_; rotate_left; (focus (intro W y1; obtain ⟨y1, y2, y3, y4, y5, y6, y7, y8, y9, y10, y11, y12, y13, y14, y15, y16⟩ := y1; go_simp; (first | done | with_reducible rfl))); clear inv; intro inv; simp only [List.getElem_toArray, List.getElem_cons_zero, List.getElem_cons_succ, Act.put, List.setIfInBounds_toArray, List.set_cons_zero, List.set_cons_succ]
                refine wpAnyG_take (i := 52) (v := ?_) rfl (by kernel_rfl) (by kernel_rfl) (by kernel_rfl) (by kernel_rfl) (by kernel_rfl) (by decide) (by decide) inv (fun _ _ _ h => h) (Or.inl ⟨by rfl, ?_⟩) HSd.out ?_; rotate_left; (focus (intro W y1; obtain ⟨y1, y2, y3, y4, y5, y6, y7, y8, y9, y10, y11, y12, y13, y14, y15, y16⟩ := y1; go_simp; (first | done | with_reducible rfl))); clear inv; intro inv; simp only [List.getElem_toArray, List.getElem_cons_zero, List.getElem_cons_succ, Act.put, List.setIfInBounds_toArray, List.set_cons_zero, List.set_cons_succ]
                refine wpAnyG_take (i := 53) (v := ?_) rfl (by kernel_rfl) (by kernel_rfl) (by kernel_rfl) (by kernel_rfl) (by kernel_rfl) (by decide) (by decide) inv (fun _ _ _ h => h) (Or.inl ⟨by rfl, ?_⟩) HSd.out ?_; rotate_left; (focus (intro W y1; obtain ⟨y1, y2, y3, y4, y5, y6, y7, y8, y9, y10, y11, y12, y13, y14, y15, y16⟩ := y1; go_simp; (first | done | with_reducible rfl))); clear inv; intro inv; simp only [List.getElem_toArray, List.getElem_cons_zero, List.getElem_cons_succ, Act.put, List.setIfInBounds_toArray, List.set_cons_zero, List.set_cons_succ]
                refine wpAnyG_take (i := 54) (v := ?_) rfl (by kernel_rfl) (by kernel_rfl) (by kernel_rfl) (by kernel_rfl) (by kernel_rfl) (by decide) (by decide) inv (fun _ _ _ h => h) (Or.inl ⟨by rfl, ?_⟩) HSd.out ?_; rotate_left; (focus (intro W y1; obtain ⟨y1, y2, y3, y4, y5, y6, y7, y8, y9, y10, y11, y12, y13, y14, y15, y16⟩ := y1; go_simp; (first | done | with_reducible rfl))); clear inv; intro inv; simp only [List.getElem_toArray, List.getElem_cons_zero, List.getElem_cons_succ, Act.put, List.setIfInBounds_toArray, List.set_cons_zero, List.set_cons_succ]
                refine wpAnyG_take (i := 55) (v := ?_) rfl (by kernel_rfl) (by kernel_rfl) (by kernel_rfl) (by kernel_rfl) (by kernel_rfl) (by decide) (by decide) inv (fun _ _ _ h => h) (Or.inl ⟨by rfl, ?_⟩) HSd.out ?_; rotate_left; (focus (intro W y1; obtain ⟨y1, y2, y3, y4, y5, y6, y7, y8, y9, y10, y11, y12, y13, y14, y15, y16⟩ := y1; go_simp; (first | done | with_reducible rfl))); clear inv; intro inv; simp only [List.getElem_toArray, List.getElem_cons_zero, List.getElem_cons_succ, Act.put, List.setIfInBounds_toArray, List.set_cons_zero, List.set_cons_succ]
                refine wpAnyG_take (i := 56) (v := ?_) rfl (by kernel_rfl) (by kernel_rfl) (by kernel_rfl) (by kernel_rfl) (by kernel_rfl) (by decide) (by decide) inv (fun _ _ _ h => h) (Or.inl ⟨by rfl, ?_⟩) HSd.out ?_; rotate_left; (focus (intro W y1; obtain ⟨y1, y2, y3, y4, y5, y6, y7, y8, y9, y10, y11, y12, y13, y14, y15, y16⟩ := y1; go_simp; (first | done | with_reducible rfl))); clear inv; intro inv; simp only [List.getElem_toArray, List.getElem_cons_zero, List.getElem_cons_succ, Act.put, List.setIfInBounds_toArray, List.set_cons_zero, List.set_cons_succ]
                refine wpAnyG_take (i := 57) (v := ?_) rfl (by kernel_rfl) (by kernel_rfl) (by kernel_rfl) (by kernel_rfl) (by kernel_rfl) (by decide) (by decide) inv (fun _ _ _ h => h) (Or.inl ⟨by rfl, ?_⟩) HSd.out ?_; rotate_left; (focus (intro W y1; obtain ⟨y1, y2, y3, y4, y5, y6, y7, y8, y9, y10, y11, y12, y13, y14, y15, y16⟩ := y1; go_simp; (first | done | with_reducible rfl))); clear inv; intro inv; simp only [List.getElem_toArray, List.getElem_cons_zero, List.getElem_cons_succ, Act.put, List.setIfInBounds_toArray, List.set_cons_zero, List.set_cons_succ]
                refine wpAnyG_take (i := 58) (v := ?_) rfl (by kernel_rfl) (by kernel_rfl) (by kernel_rfl) (by kernel_rfl) (by kernel_rfl) (by decide) (by decide) inv (fun _ _ _ h => h) (Or.inl ⟨by rfl, ?_⟩) HSd.out ?_; rotate_left; (focus (intro W y1; obtain ⟨y1, y2, y3, y4, y5, y6, y7, y8, y9, y10, y11, y12, y13, y14, y15, y16⟩ := y1; go_simp; (first | done | with_reducible rfl))); clear inv; intro inv; simp only [List.getElem_toArray, List.getElem_cons_zero, List.getElem_cons_succ, Act.put, List.setIfInBounds_toArray, List.set_cons_zero, List.set_cons_succ]
                refine wpAnyG_take (i := 59) (v := ?_) rfl (by kernel_rfl) (by kernel_rfl) (by kernel_rfl) (by kernel_rfl) (by kernel_rfl) (by decide) (by decide) inv (fun _ _ _ h => h) (Or.inl ⟨by rfl, ?_⟩) HSd.out ?_; rotate_left; (focus (intro W y1; obtain ⟨y1, y2, y3, y4, y5, y6, y7, y8, y9, y10, y11, y12, y13, y14, y15, y16⟩ := y1; go_simp; (first | done | with_reducible rfl))); clear inv; intro inv; simp only [List.getElem_toArray, List.getElem_cons_zero, List.getElem_cons_succ, Act.put, List.setIfInBounds_toArray, List.set_cons_zero, List.set_cons_succ]
                have HInv := Lib.hid inv
                clear inv
                refine wpAnyG_oneW (i := 47) (by kernel_rfl) rfl (by rfl) fun K hK => ?_
                go_simp
                refine (D3.out _).mono ?_
                rintro e wd ⟨A5, c5, B5, d5, rfl, h5, hb⟩
                have HBx47 := Lib.hid (show Below w4.heap.size w4 wd from pt HBx29.out hb)
                have R5 := Lib.hid h5
                clear h5
                unfold ratV
                refine hK.out _ _ (fun _ => HSS.out _ HBx47.out) ?_
                clear hK K hb
                replace HInv := Lib.hid (inv_one (i := 47) HInv.out (by kernel_rfl) (by decide))
                refine wpAnyG_oneW (i := 60) (by kernel_rfl) rfl (by rfl) fun K hK => ?_
                go_simp
                refine (D4.out _).mono ?_
                rintro e we ⟨A6, c6, B6, d6, rfl, h6, hb⟩
                have HBx60 := Lib.hid (show Below w4.heap.size w4 we from pt HBx47.out hb)
                have R6 := Lib.hid h6
                have R5 := Lib.hid (R5.out.past hb)
                clear h6
                unfold ratV
                refine hK.out _ _ (fun _ => HSS.out _ HBx60.out) ?_
                clear hK K hb
                replace HInv := Lib.hid (inv_one (i := 60) HInv.out (by kernel_rfl) (by decide))
                refine wpAnyG_oneW (i := 61) (by kernel_rfl) rfl (by rfl) fun K hK => ?_
                go_simp
                refine (HK2.out _ A5 c5 B5 d5 A6 c6 B6 d6 R5.out R6.out).mono ?_
                rintro e wf ⟨rfl, hb⟩
                have HBx61 := Lib.hid (show Below w4.heap.size w4 wf from pt HBx60.out hb)
                refine hK.out _ _ (fun _ => HSS.out _ HBx61.out) ?_
                clear hK K hb
                replace HInv := Lib.hid (inv_one (i := 61) HInv.out (by kernel_rfl) (by decide))
                clear HK2 D3 D4 R5 R6
                by_cases hn : m2 = 0
                · as_aux_lemma =>
                  subst hn
                  have inv := HInv.out
                  clear HInv
                  replace HSd := Lib.hid (HSS.out _ HBx61.out)
                  refine wpAnyG_take (i := 62) (v := ?_) rfl (by kernel_rfl) (by kernel_rfl) (by kernel_rfl) (by kernel_rfl) (by kernel_rfl) (by decide) (by decide) inv (fun _ _ _ h => h) (Or.inl ⟨by rfl, ?_⟩) HSd.out ?_; rotate_left; (focus (intro W y1; obtain ⟨y1, y2, y3, y4, y5, y6, y7, y8, y9, y10, y11, y12, y13, y14, y15, y16⟩ := y1; go_simp; (first | done | with_reducible rfl))); clear inv; intro inv; simp only [List.getElem_toArray, List.getElem_cons_zero, List.getElem_cons_succ, Act.put, List.setIfInBounds_toArray, List.set_cons_zero, List.set_cons_succ]
                  have HInv := Lib.hid inv
                  clear inv
                  refine wpAnyG_one (i := 63) (by kernel_rfl) rfl rfl fun K hK => ?_
                  go_simp
                  refine hK.out _ _ (fun h => absurd h (by decide)) ?_
                  clear hK K
                  refine wpAnyG_done (by kernel_rfl) ?_
                  clear HInv
                  clear HSS HSd HB0
                  have HB1 := Lib.hid (pt Q4.out HBx61.out)
                  replace HST := Lib.hid (HST.out.past HB1.out)
                  have HCC2 := Lib.hid (show ∀ W, Below wf.heap.size wf W → W.cell? ⟨bC, oC + k * 4, none⟩ = some (.int .i64 pn) ∧ W.cell? ⟨bC, oC + k * 4 + 1, none⟩ = some (.int .i64 pz) ∧ W.cell? ⟨bC, oC + k * 4 + 2, none⟩ = some (.int .i64 qn) ∧ W.cell? ⟨bC, oC + k * 4 + 3, none⟩ = some (.int .i64 qd) from fun W hW => HCC.out W (pt HB1.out hW))
                  have HE0 := Lib.hid (HZn.out (HN3.out rfl rfl))
                  clear HCell HCC HBad HN1 HN2 HN3 HZn HW Q1 Q2 Q3 Q4
                  go_wp2
                  have HSS := Lib.hid (show ∀ W, Below wf.heap.size wf W → W.cell? ⟨b7, 0, none⟩ = some (.int .i64 (signD (X).num)) ∧ W.cell? ⟨b7, 1, none⟩ = some (.slice A1 (dl (X).num) c1) ∧ W.cell? ⟨b7, 2, none⟩ = some (.int .i64 (signD ((X).den : Int))) ∧ W.cell? ⟨b7, 3, none⟩ = some (.slice B1 (dl ((X).den : Int)) d1) ∧ W.cell? ⟨b8, 0, none⟩ = some (.int .i64 (signD (Y).num)) ∧ W.cell? ⟨b8, 1, none⟩ = some (.slice A2 (dl (Y).num) c2) ∧ W.cell? ⟨b8, 2, none⟩ = some (.int .i64 (signD ((Y).den : Int))) ∧ W.cell? ⟨b8, 3, none⟩ = some (.slice B2 (dl ((Y).den : Int)) d2) ∧ W.cell? ⟨bC, oC + k * 4, none⟩ = some (.int .i64 pn) ∧ W.cell? ⟨bC, oC + k * 4 + 1, none⟩ = some (.int .i64 pz) ∧ W.cell? ⟨bC, oC + k * 4 + 2, none⟩ = some (.int .i64 qn) ∧ W.cell? ⟨bC, oC + k * 4 + 3, none⟩ = some (.int .i64 qd) from fun W hW => by
                                      obtain ⟨g1, g2, g3, g4⟩ := HCC2.out W hW
                                      exact ⟨(HST.out.x7.past hW).cellAt 0 rfl, (HST.out.x7.past hW).cellAt 1 rfl, (HST.out.x7.past hW).cellAt 2 rfl, (HST.out.x7.past hW).cellAt 3 rfl, (HST.out.x8.past hW).cellAt 0 rfl, (HST.out.x8.past hW).cellAt 1 rfl, (HST.out.x8.past hW).cellAt 2 rfl, (HST.out.x8.past hW).cellAt 3 rfl, g1, g2, g3, g4⟩)
                  refine wp_region_G 16 follows_mixed (fun W => W.cell? ⟨b7, 0, none⟩ = some (.int .i64 (signD (X).num)) ∧ W.cell? ⟨b7, 1, none⟩ = some (.slice A1 (dl (X).num) c1) ∧ W.cell? ⟨b7, 2, none⟩ = some (.int .i64 (signD ((X).den : Int))) ∧ W.cell? ⟨b7, 3, none⟩ = some (.slice B1 (dl ((X).den : Int)) d1) ∧ W.cell? ⟨b8, 0, none⟩ = some (.int .i64 (signD (Y).num)) ∧ W.cell? ⟨b8, 1, none⟩ = some (.slice A2 (dl (Y).num) c2) ∧ W.cell? ⟨b8, 2, none⟩ = some (.int .i64 (signD ((Y).den : Int))) ∧ W.cell? ⟨b8, 3, none⟩ = some (.slice B2 (dl ((Y).den : Int)) d2) ∧ W.cell? ⟨bC, oC + k * 4, none⟩ = some (.int .i64 pn) ∧ W.cell? ⟨bC, oC + k * 4 + 1, none⟩ = some (.int .i64 pz) ∧ W.cell? ⟨bC, oC + k * 4 + 2, none⟩ = some (.int .i64 qn) ∧ W.cell? ⟨bC, oC + k * 4 + 3, none⟩ = some (.int .i64 qd)) (HSS.out _ (pd pr)) ?_
                  intro hSd inv
                  have HSd := Lib.hid hSd
                  clear hSd
                  have HB0 := Lib.hid (show Below wf.heap.size wf wf.drew from pd pr)
                  refine wpAnyG_take (i := 0) (v := ?_) rfl (by kernel_rfl) (by kernel_rfl) (by kernel_rfl) (by kernel_rfl) (by kernel_rfl) (by decide) (by decide) inv (fun _ _ _ h => h) (Or.inl ⟨by rfl, ?_⟩) HSd.out ?_; rotate_left; (focus (intro W y1; obtain ⟨y1, y2, y3, y4, y5, y6, y7, y8, y9, y10, y11, y12⟩ := y1; go_simp; (first | done | with_reducible rfl))); clear inv; intro inv; simp only [List.getElem_toArray, List.getElem_cons_zero, Act.put, List.setIfInBounds_toArray, List.set_cons_zero, List.set_cons_succ]
                  refine wpAnyG_take (i := 1) (v := ?_) rfl (by kernel_rfl) (by kernel_rfl) (by kernel_rfl) (by kernel_rfl) (by kernel_rfl) (by decide) (by decide) inv (fun _ _ _ h => h) (Or.inl ⟨by rfl, ?_⟩) HSd.out ?_; rotate_left; (focus (intro W y1; obtain ⟨y1, y2, y3, y4, y5, y6, y7, y8, y9, y10, y11, y12⟩ := y1; go_simp; (first | done | with_reducible rfl))); clear inv; intro inv; simp only [List.getElem_toArray, List.getElem_cons_zero, List.getElem_cons_succ, Act.put, List.setIfInBounds_toArray, List.set_cons_zero, List.set_cons_succ]
                  refine wpAnyG_take (i := 2) (v := ?_) rfl (by kernel_rfl) (by kernel_rfl) (by kernel_rfl) (by kernel_rfl) (by kernel_rfl) (by decide) (by decide) inv (fun _ _ _ h => h) (Or.inl ⟨by rfl, ?_⟩) HSd.out ?_; rotate_left; (focus (intro W y1; obtain ⟨y1, y2, y3, y4, y5, y6, y7, y8, y9, y10, y11, y12⟩ := y1; go_simp; (first | done | with_reducible rfl))); clear inv; intro inv; simp only [List.getElem_toArray, List.getElem_cons_zero, List.getElem_cons_succ, Act.put, List.setIfInBounds_toArray, List.set_cons_zero, List.set_cons_succ]
                  refine wpAnyG_take (i := 3) (v := ?_) rfl (by kernel_rfl) (by kernel_rfl) (by kernel_rfl) (by kernel_rfl) (by kernel_rfl) (by decide) (by decide) inv (fun _ _ _ h => h) (Or.inl ⟨by rfl, ?_⟩) HSd.out ?_; rotate_left; (focus (intro W y1; obtain ⟨y1, y2, y3, y4, y5, y6, y7, y8, y9, y10, y11, y12⟩ := y1; go_simp; (first | done | with_reducible rfl))); clear inv; intro inv; simp only [List.getElem_toArray, List.getElem_cons_zero, List.getElem_cons_succ, Act.put, List.setIfInBounds_toArray, List.set_cons_zero, List.set_cons_succ]
                  refine wpAnyG_take (i := 4) (v := ?_) rfl (by kernel_rfl) (by kernel_rfl) (by kernel_rfl) (by kernel_rfl) (by kernel_rfl) (by decide) (by decide) inv (fun _ _ _ h => h) (Or.inl ⟨by rfl, ?_⟩) HSd.out ?_; rotate_left; (focus (intro W y1; obtain ⟨y1, y2, y3, y4, y5, y6, y7, y8, y9, y10, y11, y12⟩ := y1; go_simp; (first | done | with_reducible rfl))); clear inv; intro inv; simp only [List.getElem_toArray, List.getElem_cons_zero, List.getElem_cons_succ, Act.put, List.setIfInBounds_toArray, List.set_cons_zero, List.set_cons_succ]
                  refine wpAnyG_take (i := 5) (v := ?_) rfl (by kernel_rfl) (by kernel_rfl) (by kernel_rfl) (by kernel_rfl) (by kernel_rfl) (by decide) (by decide) inv (fun _ _ _ h => h) (Or.inl ⟨by rfl, ?_⟩) HSd.out ?_; rotate_left; (focus (intro W y1; obtain ⟨y1, y2, y3, y4, y5, y6, y7, y8, y9, y10, y11, y12⟩ := y1; go_simp; (first | done | with_reducible rfl))); clear inv; intro inv; simp only [List.getElem_toArray, List.getElem_cons_zero, List.getElem_cons_succ, Act.put, List.setIfInBounds_toArray, List.set_cons_zero, List.set_cons_succ]
                  refine wpAnyG_take (i := 8) (v := ?_) rfl (by kernel_rfl) (by kernel_rfl) (by kernel_rfl) (by kernel_rfl) (by kernel_rfl) (by decide) (by decide) inv (fun _ _ _ h => h) (Or.inl ⟨by rfl, ?_⟩) HSd.out ?_; rotate_left; (focus (intro W y1; obtain ⟨y1, y2, y3, y4, y5, y6, y7, y8, y9, y10, y11, y12⟩ := y1; go_simp; (first | done | with_reducible rfl))); clear inv; intro inv; simp only [List.getElem_toArray, List.getElem_cons_zero, List.getElem_cons_succ, Act.put, List.setIfInBounds_toArray, List.set_cons_zero, List.set_cons_succ]
                  refine wpAnyG_take (i := 9) (v := ?_) rfl (by kernel_rfl) (by kernel_rfl) (by kernel_rfl) (by kernel_rfl) (by kernel_rfl) (by decide) (by decide) inv (fun _ _ _ h => h) (Or.inl ⟨by rfl, ?_⟩) HSd.out ?_; rotate_left; (focus (intro W y1; obtain ⟨y1, y2, y3, y4, y5, y6, y7, y8, y9, y10, y11, y12⟩ := y1; go_simp; (first | done | with_reducible rfl))); clear inv; intro inv; simp only [List.getElem_toArray, List.getElem_cons_zero, List.getElem_cons_succ, Act.put, List.setIfInBounds_toArray, List.set_cons_zero, List.set_cons_succ]
                  refine wpAnyG_take (i := 10) (v := ?_) rfl (by kernel_rfl) (by kernel_rfl) (by kernel_rfl) (by kernel_rfl) (by kernel_rfl) (by decide) (by decide) inv (fun _ _ _ h => h) (Or.inl ⟨by rfl, ?_⟩) HSd.out ?_; rotate_left; (focus (intro W y1; obtain ⟨y1, y2, y3, y4, y5, y6, y7, y8, y9, y10, y11, y12⟩ := y1; go_simp; (first | done | with_reducible rfl))); clear inv; intro inv; simp only [List.getElem_toArray, List.getElem_cons_zero, List.getElem_cons_succ, Act.put, List.setIfInBounds_toArray, List.set_cons_zero, List.set_cons_succ]
                  refine wpAnyG_take (i := 11) (v := ?_) rfl (by kernel_rfl) (by kernel_rfl) (by kernel_rfl) (by kernel_rfl) (by kernel_rfl) (by decide) (by decide) inv (fun _ _ _ h => h) (Or.inl ⟨by rfl, ?_⟩) HSd.out ?_; rotate_left; (focus (intro W y1; obtain ⟨y1, y2, y3, y4, y5, y6, y7, y8, y9, y10, y11, y12⟩ := y1; go_simp; (first | done | with_reducible rfl))); clear inv; intro inv; simp only [List.getElem_toArray, List.getElem_cons_zero, List.getElem_cons_succ, Act.put, List.setIfInBounds_toArray, List.set_cons_zero, List.set_cons_succ]
                  refine wpAnyG_take (i := 12) (v := ?_) rfl (by kernel_rfl) (by kernel_rfl) (by kernel_rfl) (by kernel_rfl) (by kernel_rfl) (by decide) (by decide) inv (fun _ _ _ h => h) (Or.inl ⟨by rfl, ?_⟩) HSd.out ?_; rotate_left; (focus (intro W y1; obtain ⟨y1, y2, y3, y4, y5, y6, y7, y8, y9, y10, y11, y12⟩ := y1; go_simp; (first | done | with_reducible rfl))); clear inv; intro inv; simp only [List.getElem_toArray, List.getElem_cons_zero, List.getElem_cons_succ, Act.put, List.setIfInBounds_toArray, List.set_cons_zero, List.set_cons_succ]
                  refine wpAnyG_take (i := 13) (v := ?_) rfl (by kernel_rfl) (by kernel_rfl) (by kernel_rfl) (by kernel_rfl) (by kernel_rfl) (by decide) (by decide) inv (fun _ _ _ h => h) (Or.inl ⟨by rfl, ?_⟩) HSd.out ?_; rotate_left; (focus (intro W y1; obtain ⟨y1, y2, y3, y4, y5, y6, y7, y8, y9, y10, y11, y12⟩ := y1; go_simp; (first | done | with_reducible rfl))); clear inv; intro inv; simp only [List.getElem_toArray, List.getElem_cons_zero, List.getElem_cons_succ, Act.put, List.setIfInBounds_toArray, List.set_cons_zero, List.set_cons_succ]
                  have HInv := Lib.hid inv
                  clear inv
                  refine wpAnyG_one (i := 6) (by kernel_rfl) rfl rfl fun K hK => ?_
                  go_simp
                  refine (HF1.out _).mono ?_
                  rintro e wi ⟨A3, c3, B3, d3, rfl, h3, hb⟩
                  have HBx6 := Lib.hid (show Below wf.heap.size wf wi from pt HB0.out hb)
                  have H3 := Lib.hid h3
                  clear h3
                  unfold ratV
                  refine hK.out _ _ (fun _ => HSS.out _ HBx6.out) ?_
                  clear hK K hb
                  replace HInv := Lib.hid (inv_one (i := 6) HInv.out (by kernel_rfl) (by decide))
                  refine wpAnyG_one (i := 7) (by kernel_rfl) rfl rfl fun K hK => ?_
                  go_simp
                  refine (HX1.out _ A1 c1 B1 d1 A3 c3 B3 d3 HOkc.out (HST.out.a7.past HBx6.out) H3.out).mono ?_
                  rintro e ws ⟨A6, c6, B6, d6, rfl, h6, hb⟩
                  have HBx7 := Lib.hid (show Below wf.heap.size wf ws from pt HBx6.out hb)
                  have H6 := Lib.hid h6
                  clear h6
                  unfold ratV
                  refine hK.out _ _ (fun _ => HSS.out _ HBx7.out) ?_
                  clear hK K hb
                  replace HInv := Lib.hid (inv_one (i := 7) HInv.out (by kernel_rfl) (by decide))
                  refine wpAnyG_one (i := 14) (by kernel_rfl) rfl rfl fun K hK => ?_
                  go_simp
                  refine (HF2.out _).mono ?_
                  rintro e wj ⟨A4, c4, B4, d4, rfl, h4, hb⟩
                  have HBx14 := Lib.hid (show Below wf.heap.size wf wj from pt HBx7.out hb)
                  have H4 := Lib.hid h4
                  have H6 := Lib.hid (H6.out.past hb)
                  clear h4
                  unfold ratV
                  refine hK.out _ _ (fun _ => HSS.out _ HBx14.out) ?_
                  clear hK K hb
                  replace HInv := Lib.hid (inv_one (i := 14) HInv.out (by kernel_rfl) (by decide))
                  refine wpAnyG_one (i := 15) (by kernel_rfl) rfl rfl fun K hK => ?_
                  go_simp
                  refine (HX2.out _ A2 c2 B2 d2 A4 c4 B4 d4 HOkc.out (HST.out.a8.past HBx14.out) H4.out).mono ?_
                  rintro e wt ⟨A7, c7, B7, d7, rfl, h7, hb⟩
                  have HBx15 := Lib.hid (show Below wf.heap.size wf wt from pt HBx14.out hb)
                  have H7 := Lib.hid h7
                  have H6 := Lib.hid (H6.out.past hb)
                  clear h7
                  unfold ratV
                  refine hK.out _ _ (fun _ => HSS.out _ HBx15.out) ?_
                  clear hK K hb
                  replace HInv := Lib.hid (inv_one (i := 15) HInv.out (by kernel_rfl) (by decide))
                  have G1 := Lib.hid (HST.out.past HBx15.out)
                  refine wpAnyG_one (i := 16) (by kernel_rfl) rfl rfl fun K hK => ?_
                  refine store_one (T := 55) (b := b7) (o := 0) (vs := #[.int .i64 (signD (X').num), .slice A6 (dl (X').num) c6, .int .i64 (signD ((X').den : Int)), .slice B6 (dl ((X').den : Int)) d6]) rfl G1.out.x7 rfl rfl rfl (Nat.le_refl 4) ratio_size (by simp [Value.oneCell']) fun wu hBu hPu => ?_
                  refine hK.out _ _ (fun h => absurd h (by decide)) ?_
                  clear hK K
                  simp only [List.getElem_toArray, List.getElem_cons_zero, List.getElem_cons_succ, Act.put]
                  have G2 := Lib.hid (G1.out.put7 H6.out hBu hPu (Nat.ne_of_gt HB8.out) HB7.out)
                  have H8 := Lib.hid (H7.out.put G1.out.x7 hPu)
                  clear HX1 HX2 H3 H4 H6 G1 HSS HSd hBu hPu
                  refine wpAnyG_one (i := 17) (by kernel_rfl) rfl rfl fun K hK => ?_
                  refine store_one (T := 55) (b := b8) (o := 0) (vs := #[.int .i64 (signD (Y').num), .slice A7 (dl (Y').num) c7, .int .i64 (signD ((Y').den : Int)), .slice B7 (dl ((Y').den : Int)) d7]) rfl G2.out.x8 rfl rfl rfl (Nat.le_refl 4) ratio_size (by simp [Value.oneCell']) fun wz hBz hPz => ?_
                  refine hK.out _ _ (fun h => absurd h (by decide)) ?_
                  clear hK K
                  simp only [List.getElem_toArray, List.getElem_cons_zero, List.getElem_cons_succ, Act.put]
                  have G3 := Lib.hid (G2.out.put8 H8.out hBz hPz (Nat.ne_of_lt HB8.out) (Nat.le_trans HB7.out (Nat.le_of_lt HB8.out)))
                  refine wpAnyG_done (by kernel_rfl) ?_
                  clear HInv HB0 hBz hPz
                  go_wp2
                  go_roundw
                  case rel => exact ⟨k + 1, A6, c6, B6, d6, A7, c7, B7, d7, src_succ _, HI.out, HE0.out, HXE.out ▸ HYE.out ▸ G3.out⟩
                  case measure => exact src_meas HI.out
                · as_aux_lemma =>
                  have k1 : (m2 == 0) = false := by simpa using hn
                  have k2 : (m2 != 0) = true := by simpa using hn
                  have HR := HBad.out 19 (HN2.out rfl hn) (by decide)
                  have HR1 := Lib.hid HR.1.symm
                  have HR2 := Lib.hid HR.2.symm
                  clear HR
                  have inv := HInv.out
                  clear HInv
                  replace HSd := Lib.hid (HSS.out _ HBx61.out)
                  refine wpAnyG_take (i := 62) (v := ?_) rfl (by kernel_rfl) (by kernel_rfl) (by kernel_rfl) (by kernel_rfl) (by kernel_rfl) (by decide) (by decide) inv (fun _ _ _ h => h) (Or.inl ⟨by rfl, ?_⟩) HSd.out ?_; rotate_left; (focus (intro W y1; obtain ⟨y1, y2, y3, y4, y5, y6, y7, y8, y9, y10, y11, y12⟩ := y1; go_simp; (first | done | with_reducible rfl))); clear inv; intro inv; simp only [List.getElem_toArray, List.getElem_cons_zero, List.getElem_cons_succ, Act.put, List.setIfInBounds_toArray, List.set_cons_zero, List.set_cons_succ]
                  have HInv := Lib.hid inv
                  clear inv
                  refine wpAnyG_one (i := 63) (by kernel_rfl) rfl rfl fun K hK => ?_
                  go_simp
                  refine hK.out _ _ (fun h => absurd h (by decide)) ?_
                  clear hK K
                  refine wpAnyG_done (by kernel_rfl) ?_
                  clear HInv
                  clear HSS HSd HB0
                  have HB1 := Lib.hid (pt Q4.out HBx61.out)
                  go_wp2
                  go_ret2
                  exact ⟨ret_ii HR1.out HR2.out, HW.out.trans (HB1.out.mono HW.out.size)⟩
              · as_aux_lemma =>
                have k1 : (m1 == 0) = false := by simpa using hm
                have k2 : (m1 != 0) = true := by simpa using hm
                have HR := HBad.out 19 (HN1.out hm) (by decide)
                have HR1 := Lib.hid HR.1.symm
                have HR2 := Lib.hid HR.2.symm
                clear HR
                have inv := HInv.out
                clear HInv
                replace HSd := Lib.hid (HSS.out _ HBx29.out)
                refine wpAnyG_take (i := 30) (v := ?_) rfl (by kernel_rfl) (by kernel_rfl) (by kernel_rfl) (by kernel_rfl) (by kernel_rfl) (by decide) (by decide) inv (fun _ _ _ h => h) (Or.inl ⟨by rfl, ?_⟩) HSd.out ?_; rotate_left; (focus (intro W y1; obtain ⟨y1, y2, y3, y4, y5, y6, y7, y8, y9, y10, y11, y12⟩ := y1; go_simp; (first | done | with_reducible rfl))); clear inv; intro inv; simp only [List.getElem_toArray, List.getElem_cons_zero, List.getElem_cons_succ, Act.put, List.setIfInBounds_toArray, List.set_cons_zero, List.set_cons_succ]
                refine wpAnyG_take (i := 31) (v := ?_) rfl (by kernel_rfl) (by kernel_rfl) (by kernel_rfl) (by kernel_rfl) (by kernel_rfl) (by decide) (by decide) inv (fun _ _ _ h => h) (Or.inl ⟨by rfl, ?_⟩) HSd.out ?_; rotate_left; (focus (intro W y1; obtain ⟨y1, y2, y3, y4, y5, y6, y7, y8, y9, y10, y11, y12⟩ := y1; go_simp; (first | done | with_reducible rfl))); clear inv; intro inv; simp only [List.getElem_toArray, List.getElem_cons_zero, List.getElem_cons_succ, Act.put, List.setIfInBounds_toArray, List.set_cons_zero, List.set_cons_succ]
                refine wpAnyG_take (i := 32) (v := undef) rfl (by kernel_rfl) (by kernel_rfl) (by kernel_rfl) (by kernel_rfl) (by kernel_rfl) (by decide) (by decide) inv (fun _ _ _ h => h) (Or.inr ⟨by rfl, rfl⟩) HSd.out ?_; clear inv; intro inv; simp only [List.getElem_toArray, List.getElem_cons_zero, List.getElem_cons_succ, Act.put, List.setIfInBounds_toArray, List.set_cons_zero, List.set_cons_succ]
                refine wpAnyG_take (i := 33) (v := undef) rfl (by kernel_rfl) (by kernel_rfl) (by kernel_rfl) (by kernel_rfl) (by kernel_rfl) (by decide) (by decide) inv (fun _ _ _ h => h) (Or.inr ⟨by rfl, rfl⟩) HSd.out ?_; clear inv; intro inv; simp only [List.getElem_toArray, List.getElem_cons_zero, List.getElem_cons_succ, Act.put, List.setIfInBounds_toArray, List.set_cons_zero, List.set_cons_succ]
                refine wpAnyG_take (i := 34) (v := undef) rfl (by kernel_rfl) (by kernel_rfl) (by kernel_rfl) (by kernel_rfl) (by kernel_rfl) (by decide) (by decide) inv (fun _ _ _ h => h) (Or.inr ⟨by rfl, rfl⟩) HSd.out ?_; clear inv; intro inv; simp only [List.getElem_toArray, List.getElem_cons_zero, List.getElem_cons_succ, Act.put, List.setIfInBounds_toArray, List.set_cons_zero, List.set_cons_succ]
                refine wpAnyG_take (i := 35) (v := undef) rfl (by kernel_rfl) (by kernel_rfl) (by kernel_rfl) (by kernel_rfl) (by kernel_rfl) (by decide) (by decide) inv (fun _ _ _ h => h) (Or.inr ⟨by rfl, rfl⟩) HSd.out ?_; clear inv; intro inv; simp only [List.getElem_toArray, List.getElem_cons_zero, List.getElem_cons_succ, Act.put, List.setIfInBounds_toArray, List.set_cons_zero, List.set_cons_succ]
                refine wpAnyG_take (i := 36) (v := undef) rfl (by kernel_rfl) (by kernel_rfl) (by kernel_rfl) (by kernel_rfl) (by kernel_rfl) (by decide) (by decide) inv (fun _ _ _ h => h) (Or.inr ⟨by rfl, rfl⟩) HSd.out ?_; clear inv; intro inv; simp only [List.getElem_toArray, List.getElem_cons_zero, List.getElem_cons_succ, Act.put, List.setIfInBounds_toArray, List.set_cons_zero, List.set_cons_succ]
                refine wpAnyG_take (i := 37) (v := undef) rfl (by kernel_rfl) (by kernel_rfl) (by kernel_rfl) (by kernel_rfl) (by kernel_rfl) (by decide) (by decide) inv (fun _ _ _ h => h) (Or.inr ⟨by rfl, rfl⟩) HSd.out ?_; clear inv; intro inv; simp only [List.getElem_toArray, List.getElem_cons_zero, List.getElem_cons_succ, Act.put, List.setIfInBounds_toArray, List.set_cons_zero, List.set_cons_succ]
                refine wpAnyG_take (i := 38) (v := undef) rfl (by kernel_rfl) (by kernel_rfl) (by kernel_rfl) (by kernel_rfl) (by kernel_rfl) (by decide) (by decide) inv (fun _ _ _ h => h) (Or.inr ⟨by rfl, rfl⟩) HSd.out ?_; clear inv; intro inv; simp only [List.getElem_toArray, List.getElem_cons_zero, List.getElem_cons_succ, Act.put, List.setIfInBounds_toArray, List.set_cons_zero, List.set_cons_succ]
                refine wpAnyG_take (i := 39) (v := undef) rfl (by kernel_rfl) (by kernel_rfl) (by kernel_rfl) (by kernel_rfl) (by kernel_rfl) (by decide) (by decide) inv (fun _ _ _ h => h) (Or.inr ⟨by rfl, rfl⟩) HSd.out ?_; clear inv; intro inv; simp only [List.getElem_toArray, List.getElem_cons_zero, List.getElem_cons_succ, Act.put, List.setIfInBounds_toArray, List.set_cons_zero, List.set_cons_succ]
                refine wpAnyG_take (i := 40) (v := undef) rfl (by kernel_rfl) (by kernel_rfl) (by kernel_rfl) (by kernel_rfl) (by kernel_rfl) (by decide) (by decide) inv (fun _ _ _ h => h) (Or.inr ⟨by rfl, rfl⟩) HSd.out ?_; clear inv; intro inv; simp only [List.getElem_toArray, List.getElem_cons_zero, List.getElem_cons_succ, Act.put, List.setIfInBounds_toArray, List.set_cons_zero, List.set_cons_succ]
                refine wpAnyG_take (i := 41) (v := undef) rfl (by kernel_rfl) (by kernel_rfl) (by kernel_rfl) (by kernel_rfl) (by kernel_rfl) (by decide) (by decide) inv (fun _ _ _ h => h) (Or.inr ⟨by rfl, rfl⟩) HSd.out ?_; clear inv; intro inv; simp only [List.getElem_toArray, List.getElem_cons_zero, List.getElem_cons_succ, Act.put, List.setIfInBounds_toArray, List.set_cons_zero, List.set_cons_succ]
                refine wpAnyG_take (i := 42) (v := undef) rfl (by kernel_rfl) (by kernel_rfl) (by kernel_rfl) (by kernel_rfl) (by kernel_rfl) (by decide) (by decide) inv (fun _ _ _ h => h) (Or.inr ⟨by rfl, rfl⟩) HSd.out ?_; clear inv; intro inv; simp only [List.getElem_toArray, List.getElem_cons_zero, List.getElem_cons_succ, Act.put, List.setIfInBounds_toArray, List.set_cons_zero, List.set_cons_succ]
                refine wpAnyG_take (i := 43) (v := undef) rfl (by kernel_rfl) (by kernel_rfl) (by kernel_rfl) (by kernel_rfl) (by kernel_rfl) (by decide) (by decide) inv (fun _ _ _ h => h) (Or.inr ⟨by rfl, rfl⟩) HSd.out ?_; clear inv; intro inv; simp only [List.getElem_toArray, List.getElem_cons_zero, List.getElem_cons_succ, Act.put, List.setIfInBounds_toArray, List.set_cons_zero, List.set_cons_succ]
                refine wpAnyG_take (i := 44) (v := undef) rfl (by kernel_rfl) (by kernel_rfl) (by kernel_rfl) (by kernel_rfl) (by kernel_rfl) (by decide) (by decide) inv (fun _ _ _ h => h) (Or.inr ⟨by rfl, rfl⟩) HSd.out ?_; clear inv; intro inv; simp only [List.getElem_toArray, List.getElem_cons_zero, List.getElem_cons_succ, Act.put, List.setIfInBounds_toArray, List.set_cons_zero, List.set_cons_succ]
                refine wpAnyG_take (i := 45) (v := undef) rfl (by kernel_rfl) (by kernel_rfl) (by kernel_rfl) (by kernel_rfl) (by kernel_rfl) (by decide) (by decide) inv (fun _ _ _ h => h) (Or.inr ⟨by rfl, rfl⟩) HSd.out ?_; clear inv; intro inv; simp only [List.getElem_toArray, List.getElem_cons_zero, List.getElem_cons_succ, Act.put, List.setIfInBounds_toArray, List.set_cons_zero, List.set_cons_succ]
                refine wpAnyG_take (i := 46) (v := undef) rfl (by kernel_rfl) (by kernel_rfl) (by kernel_rfl) (by kernel_rfl) (by kernel_rfl) (by decide) (by decide) inv (fun _ _ _ h => h) (Or.inr ⟨by rfl, rfl⟩) HSd.out ?_; clear inv; intro inv; simp only [List.getElem_toArray, List.getElem_cons_zero, List.getElem_cons_succ, Act.put, List.setIfInBounds_toArray, List.set_cons_zero, List.set_cons_succ]
                refine wpAnyG_take (i := 47) (v := undef) rfl (by kernel_rfl) (by kernel_rfl) (by kernel_rfl) (by kernel_rfl) (by kernel_rfl) (by decide) (by decide) inv (fun _ _ _ h => h) (Or.inr ⟨by rfl, rfl⟩) HSd.out ?_; clear inv; intro inv; simp only [List.getElem_toArray, List.getElem_cons_zero, List.getElem_cons_succ, Act.put, List.setIfInBounds_toArray, List.set_cons_zero, List.set_cons_succ]
                refine wpAnyG_take (i := 48) (v := undef) rfl (by kernel_rfl) (by kernel_rfl) (by kernel_rfl) (by kernel_rfl) (by kernel_rfl) (by decide) (by decide) inv (fun _ _ _ h => h) (Or.inr ⟨by rfl, rfl⟩) HSd.out ?_; clear inv; intro inv; simp only [List.getElem_toArray, List.getElem_cons_zero, List.getElem_cons_succ, Act.put, List.setIfInBounds_toArray, List.set_cons_zero, List.set_cons_succ]
                refine wpAnyG_take (i := 49) (v := undef) rfl (by kernel_rfl) (by kernel_rfl) (by kernel_rfl) (by kernel_rfl) (by kernel_rfl) (by decide) (by decide) inv (fun _ _ _ h => h) (Or.inr ⟨by rfl, rfl⟩) HSd.out ?_; clear inv; intro inv; simp only [List.getElem_toArray, List.getElem_cons_zero, List.getElem_cons_succ, Act.put, List.setIfInBounds_toArray, List.set_cons_zero, List.set_cons_succ]
                refine wpAnyG_take (i := 50) (v := undef) rfl (by kernel_rfl) (by kernel_rfl) (by kernel_rfl) (by kernel_rfl) (by kernel_rfl) (by decide) (by decide) inv (fun _ _ _ h => h) (Or.inr ⟨by rfl, rfl⟩) HSd.out ?_; clear inv; intro inv; simp only [List.getElem_toArray, List.getElem_cons_zero, List.getElem_cons_succ, Act.put, List.setIfInBounds_toArray, List.set_cons_zero, List.set_cons_succ]
                refine wpAnyG_take (i := 51) (v := undef) rfl (by kernel_rfl) (by kernel_rfl) (by kernel_rfl) (by kernel_rfl) (by kernel_rfl) (by decide) (by decide) inv (fun _ _ _ h => h) (Or.inr ⟨by rfl, rfl⟩) HSd.out ?_; clear inv; intro inv; simp only [List.getElem_toArray, List.getElem_cons_zero, List.getElem_cons_succ, Act.put, List.setIfInBounds_toArray, List.set_cons_zero, List.set_cons_succ]
                refine wpAnyG_take (i := 52) (v := undef) rfl (by kernel_rfl) (by kernel_rfl) (by kernel_rfl) (by kernel_rfl) (by kernel_rfl) (by decide) (by decide) inv (fun _ _ _ h => h) (Or.inr ⟨by rfl, rfl⟩) HSd.out ?_; clear inv; intro inv; simp only [List.getElem_toArray, List.getElem_cons_zero, List.getElem_cons_succ, Act.put, List.setIfInBounds_toArray, List.set_cons_zero, List.set_cons_succ]
                refine wpAnyG_take (i := 53) (v := undef) rfl (by kernel_rfl) (by kernel_rfl) (by kernel_rfl) (by kernel_rfl) (by kernel_rfl) (by decide) (by decide) inv (fun _ _ _ h => h) (Or.inr ⟨by rfl, rfl⟩) HSd.out ?_; clear inv; intro inv; simp only [List.getElem_toArray, List.getElem_cons_zero, List.getElem_cons_succ, Act.put, List.setIfInBounds_toArray, List.set_cons_zero, List.set_cons_succ]
                refine wpAnyG_take (i := 54) (v := undef) rfl (by kernel_rfl) (by kernel_rfl) (by kernel_rfl) (by kernel_rfl) (by kernel_rfl) (by decide) (by decide) inv (fun _ _ _ h => h) (Or.inr ⟨by rfl, rfl⟩) HSd.out ?_; clear inv; intro inv; simp only [List.getElem_toArray, List.getElem_cons_zero, List.getElem_cons_succ, Act.put, List.setIfInBounds_toArray, List.set_cons_zero, List.set_cons_succ]
                refine wpAnyG_take (i := 55) (v := undef) rfl (by kernel_rfl) (by kernel_rfl) (by kernel_rfl) (by kernel_rfl) (by kernel_rfl) (by decide) (by decide) inv (fun _ _ _ h => h) (Or.inr ⟨by rfl, rfl⟩) HSd.out ?_; clear inv; intro inv; simp only [List.getElem_toArray, List.getElem_cons_zero, List.getElem_cons_succ, Act.put, List.setIfInBounds_toArray, List.set_cons_zero, List.set_cons_succ]
                refine wpAnyG_take (i := 56) (v := undef) rfl (by kernel_rfl) (by kernel_rfl) (by kernel_rfl) (by kernel_rfl) (by kernel_rfl) (by decide) (by decide) inv (fun _ _ _ h => h) (Or.inr ⟨by rfl, rfl⟩) HSd.out ?_; clear inv; intro inv; simp only [List.getElem_toArray, List.getElem_cons_zero, List.getElem_cons_succ, Act.put, List.setIfInBounds_toArray, List.set_cons_zero, List.set_cons_succ]
                refine wpAnyG_take (i := 57) (v := undef) rfl (by kernel_rfl) (by kernel_rfl) (by kernel_rfl) (by kernel_rfl) (by kernel_rfl) (by decide) (by decide) inv (fun _ _ _ h => h) (Or.inr ⟨by rfl, rfl⟩) HSd.out ?_; clear inv; intro inv; simp only [List.getElem_toArray, List.getElem_cons_zero, List.getElem_cons_succ, Act.put, List.setIfInBounds_toArray, List.set_cons_zero, List.set_cons_succ]
                refine wpAnyG_take (i := 58) (v := undef) rfl (by kernel_rfl) (by kernel_rfl) (by kernel_rfl) (by kernel_rfl) (by kernel_rfl) (by decide) (by decide) inv (fun _ _ _ h => h) (Or.inr ⟨by rfl, rfl⟩) HSd.out ?_; clear inv; intro inv; simp only [List.getElem_toArray, List.getElem_cons_zero, List.getElem_cons_succ, Act.put, List.setIfInBounds_toArray, List.set_cons_zero, List.set_cons_succ]
                refine wpAnyG_take (i := 59) (v := undef) rfl (by kernel_rfl) (by kernel_rfl) (by kernel_rfl) (by kernel_rfl) (by kernel_rfl) (by decide) (by decide) inv (fun _ _ _ h => h) (Or.inr ⟨by rfl, rfl⟩) HSd.out ?_; clear inv; intro inv; simp only [List.getElem_toArray, List.getElem_cons_zero, List.getElem_cons_succ, Act.put, List.setIfInBounds_toArray, List.set_cons_zero, List.set_cons_succ]
                refine wpAnyG_take (i := 60) (v := undef) rfl (by kernel_rfl) (by kernel_rfl) (by kernel_rfl) (by kernel_rfl) (by kernel_rfl) (by decide) (by decide) inv (fun _ _ _ h => h) (Or.inr ⟨by rfl, rfl⟩) HSd.out ?_; clear inv; intro inv; simp only [List.getElem_toArray, List.getElem_cons_zero, List.getElem_cons_succ, Act.put, List.setIfInBounds_toArray, List.set_cons_zero, List.set_cons_succ]
                refine wpAnyG_take (i := 61) (v := undef) rfl (by kernel_rfl) (by kernel_rfl) (by kernel_rfl) (by kernel_rfl) (by kernel_rfl) (by decide) (by decide) inv (fun _ _ _ h => h) (Or.inr ⟨by rfl, rfl⟩) HSd.out ?_; clear inv; intro inv; simp only [List.getElem_toArray, List.getElem_cons_zero, List.getElem_cons_succ, Act.put, List.setIfInBounds_toArray, List.set_cons_zero, List.set_cons_succ]
                refine wpAnyG_take (i := 62) (v := undef) rfl (by kernel_rfl) (by kernel_rfl) (by kernel_rfl) (by kernel_rfl) (by kernel_rfl) (by decide) (by decide) inv (fun _ _ _ h => h) (Or.inr ⟨by rfl, rfl⟩) HSd.out ?_; clear inv; intro inv; simp only [List.getElem_toArray, List.getElem_cons_zero, List.getElem_cons_succ, Act.put, List.setIfInBounds_toArray, List.set_cons_zero, List.set_cons_succ]
                have HInv := Lib.hid inv
                clear inv
                refine wpAnyG_one (i := 63) (by kernel_rfl) rfl rfl fun K hK => ?_
                go_simp
                refine hK.out _ _ (fun h => absurd h (by decide)) ?_
                clear hK K
                refine wpAnyG_done (by kernel_rfl) ?_
                clear HInv
                clear HSS HSd HB0
                have HB1 := Lib.hid (pt Q4.out HBx29.out)
                go_wp2
                go_ret2
                exact ⟨ret_ii HR1.out HR2.out, HW.out.trans (HB1.out.mono HW.out.size)⟩
    · as_aux_lemma =>
      have hkn : k = ls.length := Nat.le_antisymm hk (Nat.le_of_not_lt hlt)
      subst hkn
      have i1 : ¬ (ls.length : Int) < (ls.length : Int) := Int.lt_irrefl _
      have hcok : ∀ j, j < ls.length → CuOk (cs.getD j default) := fun j hj => (curE_ok (HZ.out j hj)).1
      have HC1 := Lib.hid (fun W A3 c3 B3 d3 A4 c4 B4 d4 => HE1.out W A3 c3 B3 d3 A4 c4 B4 d4 hcok)
      have HC2 := Lib.hid (fun W A3 c3 B3 d3 A4 c4 B4 d4 => HE2.out W A3 c3 B3 d3 A4 c4 B4 d4 hcok)
      have HRe := Lib.hid (fun b (hb : openB ls p q (cs.getD 0 default) = b) => HRv.out.symm.trans (chk_end (p := p) (q := q) HL.out HZ.out hb))
      have HO := Lib.hid (HOs.out HZ.out)
      have HBy := Lib.hid (HBx.out.past HST.out.bel)
      clear HE1 HE2 HOs HRv HA1 HA2 HAc HCc hcok hlt hk
      generalize openB ls p q (cs.getD 0 default) = ob at *
      generalize sumTo (cuPr cs) ls.length = X at *
      generalize sumTo (cuQr cs) ls.length = Y at *
      have hm1 := cmp_eq X xp
      have hm2 := cmp_eq Y xq
      generalize signD (X.num * (xp.den : Int) - xp.num * (X.den : Int)) = m1 at *
      generalize signD (Y.num * (xq.den : Int) - xq.num * (Y.den : Int)) = m2 at *
      have Hm1 := Lib.hid hm1
      have Hm2 := Lib.hid hm2
      clear hm1 hm2
      go_wp2
      have HSS := Lib.hid (show ∀ W, Below wr.heap.size wr W → W.cell? ⟨b7, 0, none⟩ = some (.int .i64 (signD (X).num)) ∧ W.cell? ⟨b7, 1, none⟩ = some (.slice A1 (dl (X).num) c1) ∧ W.cell? ⟨b7, 2, none⟩ = some (.int .i64 (signD ((X).den : Int))) ∧ W.cell? ⟨b7, 3, none⟩ = some (.slice B1 (dl ((X).den : Int)) d1) ∧ W.cell? ⟨b8, 0, none⟩ = some (.int .i64 (signD (Y).num)) ∧ W.cell? ⟨b8, 1, none⟩ = some (.slice A2 (dl (Y).num) c2) ∧ W.cell? ⟨b8, 2, none⟩ = some (.int .i64 (signD ((Y).den : Int))) ∧ W.cell? ⟨b8, 3, none⟩ = some (.slice B2 (dl ((Y).den : Int)) d2) ∧ W.cell? ⟨w.heap.size, 0, none⟩ = some (.int .i64 p) ∧ W.cell? ⟨w.heap.size, 1, none⟩ = some (.int .i64 q) from fun W hW => ⟨(HST.out.x7.past hW).cellAt 0 rfl, (HST.out.x7.past hW).cellAt 1 rfl, (HST.out.x7.past hW).cellAt 2 rfl, (HST.out.x7.past hW).cellAt 3 rfl, (HST.out.x8.past hW).cellAt 0 rfl, (HST.out.x8.past hW).cellAt 1 rfl, (HST.out.x8.past hW).cellAt 2 rfl, (HST.out.x8.past hW).cellAt 3 rfl, (HBy.out.past hW).cellAt 0 rfl, (HBy.out.past hW).cellAt 1 rfl⟩)
      refine wp_region_G 13 follows_mixed (fun W => W.cell? ⟨b7, 0, none⟩ = some (.int .i64 (signD (X).num)) ∧ W.cell? ⟨b7, 1, none⟩ = some (.slice A1 (dl (X).num) c1) ∧ W.cell? ⟨b7, 2, none⟩ = some (.int .i64 (signD ((X).den : Int))) ∧ W.cell? ⟨b7, 3, none⟩ = some (.slice B1 (dl ((X).den : Int)) d1) ∧ W.cell? ⟨b8, 0, none⟩ = some (.int .i64 (signD (Y).num)) ∧ W.cell? ⟨b8, 1, none⟩ = some (.slice A2 (dl (Y).num) c2) ∧ W.cell? ⟨b8, 2, none⟩ = some (.int .i64 (signD ((Y).den : Int))) ∧ W.cell? ⟨b8, 3, none⟩ = some (.slice B2 (dl ((Y).den : Int)) d2) ∧ W.cell? ⟨w.heap.size, 0, none⟩ = some (.int .i64 p) ∧ W.cell? ⟨w.heap.size, 1, none⟩ = some (.int .i64 q)) (HSS.out _ (pd pr)) ?_
      intro hSd inv
      have HSd := Lib.hid hSd
      clear hSd
      have HB0 := Lib.hid (show Below wr.heap.size wr wr.drew from pd pr)
      refine wpAnyG_take (i := 0) (v := ?_) rfl (by kernel_rfl) (by kernel_rfl) (by kernel_rfl) (by kernel_rfl) (by kernel_rfl) (by decide) (by decide) inv (fun _ _ _ h => h) (Or.inl ⟨by rfl, ?_⟩) HSd.out ?_; rotate_left; (focus (intro W y1; obtain ⟨y1, y2, y3, y4, y5, y6, y7, y8, y9, y10⟩ := y1; go_simp; (first | done | with_reducible rfl))); clear inv; intro inv; simp only [List.getElem_toArray, List.getElem_cons_zero, Act.put, List.setIfInBounds_toArray, List.set_cons_zero, List.set_cons_succ]
      refine wpAnyG_take (i := 1) (v := ?_) rfl (by kernel_rfl) (by kernel_rfl) (by kernel_rfl) (by kernel_rfl) (by kernel_rfl) (by decide) (by decide) inv (fun _ _ _ h => h) (Or.inl ⟨by rfl, ?_⟩) HSd.out ?_; rotate_left; (focus (intro W y1; obtain ⟨y1, y2, y3, y4, y5, y6, y7, y8, y9, y10⟩ := y1; go_simp; (first | done | with_reducible rfl))); clear inv; intro inv; simp only [List.getElem_toArray, List.getElem_cons_zero, List.getElem_cons_succ, Act.put, List.setIfInBounds_toArray, List.set_cons_zero, List.set_cons_succ]
      refine wpAnyG_take (i := 2) (v := ?_) rfl (by kernel_rfl) (by kernel_rfl) (by kernel_rfl) (by kernel_rfl) (by kernel_rfl) (by decide) (by decide) inv (fun _ _ _ h => h) (Or.inl ⟨by rfl, ?_⟩) HSd.out ?_; rotate_left; (focus (intro W y1; obtain ⟨y1, y2, y3, y4, y5, y6, y7, y8, y9, y10⟩ := y1; go_simp; (first | done | with_reducible rfl))); clear inv; intro inv; simp only [List.getElem_toArray, List.getElem_cons_zero, List.getElem_cons_succ, Act.put, List.setIfInBounds_toArray, List.set_cons_zero, List.set_cons_succ]
      have HInv := Lib.hid inv
      clear inv
      refine wpAnyG_one (i := 3) (by kernel_rfl) rfl rfl fun K hK => ?_
      go_simp
      refine (HIp.out _).mono ?_
      rintro e wa ⟨A3, c3, B3, d3, rfl, h3, hb⟩
      have HBx3 := Lib.hid (show Below wr.heap.size wr wa from pt HB0.out hb)
      have H3 := Lib.hid h3
      clear h3
      unfold ratV
      refine hK.out _ _ (fun _ => HSS.out _ HBx3.out) ?_
      clear hK K hb
      replace HInv := Lib.hid (inv_one (i := 3) HInv.out (by kernel_rfl) (by decide))
      refine wpAnyG_one (i := 4) (by kernel_rfl) rfl rfl fun K hK => ?_
      go_simp
      refine (HC1.out _ A1 c1 B1 d1 A3 c3 B3 d3 (HST.out.a7.past HBx3.out) H3.out).mono ?_
      rintro e wb ⟨rfl, hb⟩
      have HBx4 := Lib.hid (show Below wr.heap.size wr wb from pt HBx3.out hb)
      refine hK.out _ _ (fun _ => HSS.out _ HBx4.out) ?_
      clear hK K hb
      replace HInv := Lib.hid (inv_one (i := 4) HInv.out (by kernel_rfl) (by decide))
      by_cases hm : m1 = 0
      · as_aux_lemma =>
        subst hm
        have HX := Lib.hid (Hm1.out.1 rfl)
        have inv := HInv.out
        clear HInv
        replace HSd := Lib.hid (HSS.out _ HBx4.out)
        refine wpAnyG_take (i := 5) (v := ?_) rfl (by kernel_rfl) (by kernel_rfl) (by kernel_rfl) (by kernel_rfl) (by kernel_rfl) (by decide) (by decide) inv (fun _ _ _ h => h) (Or.inl ⟨by rfl, ?_⟩) HSd.out ?_; rotate_left; (focus (intro W y1; obtain ⟨y1, y2, y3, y4, y5, y6, y7, y8, y9, y10⟩ := y1; go_simp; (first | done | with_reducible rfl))); clear inv; intro inv; simp only [List.getElem_toArray, List.getElem_cons_zero, List.getElem_cons_succ, Act.put, List.setIfInBounds_toArray, List.set_cons_zero, List.set_cons_succ]
        refine wpAnyG_take (i := 6) (v := ?_) rfl (by kernel_rfl) (by kernel_rfl) (by kernel_rfl) (by kernel_rfl) (by kernel_rfl) (by decide) (by decide) inv (fun _ _ _ h => h) (Or.inl ⟨by rfl, ?_⟩) HSd.out ?_; rotate_left; (focus (intro W y1; obtain ⟨y1, y2, y3, y4, y5, y6, y7, y8, y9, y10⟩ := y1; go_simp; (first | done | with_reducible rfl))); clear inv; intro inv; simp only [List.getElem_toArray, List.getElem_cons_zero, List.getElem_cons_succ, Act.put, List.setIfInBounds_toArray, List.set_cons_zero, List.set_cons_succ]
        refine wpAnyG_take (i := 7) (v := ?_) rfl (by kernel_rfl) (by kernel_rfl) (by kernel_rfl) (by kernel_rfl) (by kernel_rfl) (by decide) (by decide) inv (fun _ _ _ h => h) (Or.inl ⟨by rfl, ?_⟩) HSd.out ?_; rotate_left; (focus (intro W y1; obtain ⟨y1, y2, y3, y4, y5, y6, y7, y8, y9, y10⟩ := y1; go_simp; (first | done | with_reducible rfl))); clear inv; intro inv; simp only [List.getElem_toArray, List.getElem_cons_zero, List.getElem_cons_succ, Act.put, List.setIfInBounds_toArray, List.set_cons_zero, List.set_cons_succ]
        refine wpAnyG_take (i := 8) (v := ?_) rfl (by kernel_rfl) (by kernel_rfl) (by kernel_rfl) (by kernel_rfl) (by kernel_rfl) (by decide) (by decide) inv (fun _ _ _ h => h) (Or.inl ⟨by rfl, ?_⟩) HSd.out ?_; rotate_left; (focus (intro W y1; obtain ⟨y1, y2, y3, y4, y5, y6, y7, y8, y9, y10⟩ := y1; go_simp; (first | done | with_reducible rfl))); clear inv; intro inv; simp only [List.getElem_toArray, List.getElem_cons_zero, List.getElem_cons_succ, Act.put, List.setIfInBounds_toArray, List.set_cons_zero, List.set_cons_succ]
        refine wpAnyG_take (i := 9) (v := ?_) rfl (by kernel_rfl) (by kernel_rfl) (by kernel_rfl) (by kernel_rfl) (by kernel_rfl) (by decide) (by decide) inv (fun _ _ _ h => h) (Or.inl ⟨by rfl, ?_⟩) HSd.out ?_; rotate_left; (focus (intro W y1; obtain ⟨y1, y2, y3, y4, y5, y6, y7, y8, y9, y10⟩ := y1; go_simp; (first | done | with_reducible rfl))); clear inv; intro inv; simp only [List.getElem_toArray, List.getElem_cons_zero, List.getElem_cons_succ, Act.put, List.setIfInBounds_toArray, List.set_cons_zero, List.set_cons_succ]
        have HInv := Lib.hid inv
        clear inv
        refine wpAnyG_oneW (i := 10) (by kernel_rfl) rfl (by rfl) fun K hK => ?_
        go_simp
        refine (HIq.out _).mono ?_
        rintro e wc ⟨A4, c4, B4, d4, rfl, h4, hb⟩
        have HBx10 := Lib.hid (show Below wr.heap.size wr wc from pt HBx4.out hb)
        have H4 := Lib.hid h4
        clear h4
        unfold ratV
        refine hK.out _ _ (fun _ => HSS.out _ HBx10.out) ?_
        clear hK K hb
        replace HInv := Lib.hid (inv_one (i := 10) HInv.out (by kernel_rfl) (by decide))
        refine wpAnyG_oneW (i := 11) (by kernel_rfl) rfl (by rfl) fun K hK => ?_
        go_simp
        refine (HC2.out _ A2 c2 B2 d2 A4 c4 B4 d4 (HST.out.a8.past HBx10.out) H4.out).mono ?_
        rintro e wd ⟨rfl, hb⟩
        have HBx11 := Lib.hid (show Below wr.heap.size wr wd from pt HBx10.out hb)
        refine hK.out _ _ (fun _ => HSS.out _ HBx11.out) ?_
        clear hK K hb
        replace HInv := Lib.hid (inv_one (i := 11) HInv.out (by kernel_rfl) (by decide))
        by_cases hn : m2 = 0
        · as_aux_lemma =>
          subst hn
          have HY := Lib.hid (Hm2.out.1 rfl)
          have HR := Prod.mk.inj (HRe.out true (HO.out.2 ⟨HX.out, HY.out⟩))
          have HR1 := Lib.hid HR.1.symm
          have HR2 := Lib.hid HR.2.symm
          clear HR
          have inv := HInv.out
          clear HInv
          replace HSd := Lib.hid (HSS.out _ HBx11.out)
          refine wpAnyG_take (i := 12) (v := ?_) rfl (by kernel_rfl) (by kernel_rfl) (by kernel_rfl) (by kernel_rfl) (by kernel_rfl) (by decide) (by decide) inv (fun _ _ _ h => h) (Or.inl ⟨by rfl, ?_⟩) HSd.out ?_; rotate_left; (focus (intro W y1; obtain ⟨y1, y2, y3, y4, y5, y6, y7, y8, y9, y10⟩ := y1; go_simp; (first | done | with_reducible rfl))); clear inv; intro inv; simp only [List.getElem_toArray, List.getElem_cons_zero, List.getElem_cons_succ, Act.put, List.setIfInBounds_toArray, List.set_cons_zero, List.set_cons_succ]
          have HInv := Lib.hid inv
          clear inv
          refine wpAnyG_one (i := 13) (by kernel_rfl) rfl rfl fun K hK => ?_
          go_simp
          refine hK.out _ _ (fun h => absurd h (by decide)) ?_
          clear hK K
          refine wpAnyG_done (by kernel_rfl) ?_
          clear HInv
          clear HSS HSd HB0
          go_wp2
          go_ret2
          exact ⟨ret_ii HR1.out HR2.out, HW.out.trans (HBx11.out.mono HW.out.size)⟩
        · as_aux_lemma =>
          have k1 : (m2 == 0) = false := by simpa using hn
          have k2 : (m2 != 0) = true := by simpa using hn
          have hob : ob = false := by
                      cases h : ob with
                      | false => rfl
                      | true => exact absurd (Hm2.out.2 (HO.out.1 h).2) hn
          have HR := Prod.mk.inj (HRe.out false hob)
          have HR1 := Lib.hid HR.1.symm
          have HR2 := Lib.hid HR.2.symm
          clear HR hob
          have inv := HInv.out
          clear HInv
          replace HSd := Lib.hid (HSS.out _ HBx11.out)
          refine wpAnyG_take (i := 12) (v := ?_) rfl (by kernel_rfl) (by kernel_rfl) (by kernel_rfl) (by kernel_rfl) (by kernel_rfl) (by decide) (by decide) inv (fun _ _ _ h => h) (Or.inl ⟨by rfl, ?_⟩) HSd.out ?_; rotate_left; (focus (intro W y1; obtain ⟨y1, y2, y3, y4, y5, y6, y7, y8, y9, y10⟩ := y1; go_simp; (first | done | with_reducible rfl))); clear inv; intro inv; simp only [List.getElem_toArray, List.getElem_cons_zero, List.getElem_cons_succ, Act.put, List.setIfInBounds_toArray, List.set_cons_zero, List.set_cons_succ]
          have HInv := Lib.hid inv
          clear inv
          refine wpAnyG_one (i := 13) (by kernel_rfl) rfl rfl fun K hK => ?_
          go_simp
          refine hK.out _ _ (fun h => absurd h (by decide)) ?_
          clear hK K
          refine wpAnyG_done (by kernel_rfl) ?_
          clear HInv
          clear HSS HSd HB0
          go_wp2
          go_ret2
          exact ⟨ret_ii HR1.out HR2.out, HW.out.trans (HBx11.out.mono HW.out.size)⟩
      · as_aux_lemma =>
        have k1 : (m1 == 0) = false := by simpa using hm
        have k2 : (m1 != 0) = true := by simpa using hm
        have hob : ob = false := by
                  cases h : ob with
                  | false => rfl
                  | true => exact absurd (Hm1.out.2 (HO.out.1 h).1) hm
        have HR := Prod.mk.inj (HRe.out false hob)
        have HR1 := Lib.hid HR.1.symm
        have HR2 := Lib.hid HR.2.symm
        clear HR hob
        have inv := HInv.out
        clear HInv
        replace HSd := Lib.hid (HSS.out _ HBx4.out)
        refine wpAnyG_take (i := 5) (v := ?_) rfl (by kernel_rfl) (by kernel_rfl) (by kernel_rfl) (by kernel_rfl) (by kernel_rfl) (by decide) (by decide) inv (fun _ _ _ h => h) (Or.inl ⟨by rfl, ?_⟩) HSd.out ?_; rotate_left; (focus (intro W y1; obtain ⟨y1, y2, y3, y4, y5, y6, y7, y8, y9, y10⟩ := y1; go_simp; (first | done | with_reducible rfl))); clear inv; intro inv; simp only [List.getElem_toArray, List.getElem_cons_zero, List.getElem_cons_succ, Act.put, List.setIfInBounds_toArray, List.set_cons_zero, List.set_cons_succ]
        refine wpAnyG_take (i := 6) (v := ?_) rfl (by kernel_rfl) (by kernel_rfl) (by kernel_rfl) (by kernel_rfl) (by kernel_rfl) (by decide) (by decide) inv (fun _ _ _ h => h) (Or.inl ⟨by rfl, ?_⟩) HSd.out ?_; rotate_left; (focus (intro W y1; obtain ⟨y1, y2, y3, y4, y5, y6, y7, y8, y9, y10⟩ := y1; go_simp; (first | done | with_reducible rfl))); clear inv; intro inv; simp only [List.getElem_toArray, List.getElem_cons_zero, List.getElem_cons_succ, Act.put, List.setIfInBounds_toArray, List.set_cons_zero, List.set_cons_succ]
        refine wpAnyG_take (i := 7) (v := undef) rfl (by kernel_rfl) (by kernel_rfl) (by kernel_rfl) (by kernel_rfl) (by kernel_rfl) (by decide) (by decide) inv (fun _ _ _ h => h) (Or.inr ⟨by rfl, rfl⟩) HSd.out ?_; clear inv; intro inv; simp only [List.getElem_toArray, List.getElem_cons_zero, List.getElem_cons_succ, Act.put, List.setIfInBounds_toArray, List.set_cons_zero, List.set_cons_succ]
        refine wpAnyG_take (i := 8) (v := undef) rfl (by kernel_rfl) (by kernel_rfl) (by kernel_rfl) (by kernel_rfl) (by kernel_rfl) (by decide) (by decide) inv (fun _ _ _ h => h) (Or.inr ⟨by rfl, rfl⟩) HSd.out ?_; clear inv; intro inv; simp only [List.getElem_toArray, List.getElem_cons_zero, List.getElem_cons_succ, Act.put, List.setIfInBounds_toArray, List.set_cons_zero, List.set_cons_succ]
        refine wpAnyG_take (i := 9) (v := undef) rfl (by kernel_rfl) (by kernel_rfl) (by kernel_rfl) (by kernel_rfl) (by kernel_rfl) (by decide) (by decide) inv (fun _ _ _ h => h) (Or.inr ⟨by rfl, rfl⟩) HSd.out ?_; clear inv; intro inv; simp only [List.getElem_toArray, List.getElem_cons_zero, List.getElem_cons_succ, Act.put, List.setIfInBounds_toArray, List.set_cons_zero, List.set_cons_succ]
        refine wpAnyG_take (i := 10) (v := undef) rfl (by kernel_rfl) (by kernel_rfl) (by kernel_rfl) (by kernel_rfl) (by kernel_rfl) (by decide) (by decide) inv (fun _ _ _ h => h) (Or.inr ⟨by rfl, rfl⟩) HSd.out ?_; clear inv; intro inv; simp only [List.getElem_toArray, List.getElem_cons_zero, List.getElem_cons_succ, Act.put, List.setIfInBounds_toArray, List.set_cons_zero, List.set_cons_succ]
        refine wpAnyG_take (i := 11) (v := undef) rfl (by kernel_rfl) (by kernel_rfl) (by kernel_rfl) (by kernel_rfl) (by kernel_rfl) (by decide) (by decide) inv (fun _ _ _ h => h) (Or.inr ⟨by rfl, rfl⟩) HSd.out ?_; clear inv; intro inv; simp only [List.getElem_toArray, List.getElem_cons_zero, List.getElem_cons_succ, Act.put, List.setIfInBounds_toArray, List.set_cons_zero, List.set_cons_succ]
        refine wpAnyG_take (i := 12) (v := undef) rfl (by kernel_rfl) (by kernel_rfl) (by kernel_rfl) (by kernel_rfl) (by kernel_rfl) (by decide) (by decide) inv (fun _ _ _ h => h) (Or.inr ⟨by rfl, rfl⟩) HSd.out ?_; clear inv; intro inv; simp only [List.getElem_toArray, List.getElem_cons_zero, List.getElem_cons_succ, Act.put, List.setIfInBounds_toArray, List.set_cons_zero, List.set_cons_succ]
        have HInv := Lib.hid inv
        clear inv
        refine wpAnyG_one (i := 13) (by kernel_rfl) rfl rfl fun K hK => ?_
        go_simp
        refine hK.out _ _ (fun h => absurd h (by decide)) ?_
        clear hK K
        refine wpAnyG_done (by kernel_rfl) ?_
        clear HInv
        clear HSS HSd HB0
        go_wp2
        go_ret2
        exact ⟨ret_ii HR1.out HR2.out, HW.out.trans (HBx4.out.mono HW.out.size)⟩

end Go.Proofs.YtpdkbhjcpddnpaaGreatDoor
end
