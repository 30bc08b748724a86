/- Contract: which currents of parallel sources are accepted. Printed by a program (gen_chk.py). -/
import Derived.Test.YtpdkbhjcpddnpaaGreatDoorOd4
import Derived.Test.YtpdkbhjcpddnpaaGreatDoorOd5

section
namespace Go.Proofs.YtpdkbhjcpddnpaaGreatDoor
open Go.RowKit
attribute [local go_sem ↓] Go.wp_at_zero Go.wp_at_succ
attribute [local go_sem] pp_at0 pp_at1

theorem partB_2 (b o : Nat) (w : World) : Calls Tryz.prog 87 #[.pointer (some ⟨b, o, none⟩)] w fun e w' => e = .returned (.pointer (some ⟨b, o + 0, none⟩)) ∧ Below w.heap.size w w' := (part_2 b o w).mono fun _e _w' h => ⟨h.1, h.2 ▸ pr⟩
theorem partB_4 (b o : Nat) (w : World) : Calls Tryz.prog 89 #[.pointer (some ⟨b, o, none⟩)] w fun e w' => e = .returned (.pointer (some ⟨b, o + 2, none⟩)) ∧ Below w.heap.size w w' := (part_4 b o w).mono fun _e _w' h => ⟨h.1, h.2 ▸ pr⟩
theorem busF_bds {s : Src} (hs : SrcOk s) {v n d : Int} (hv : -1000000 ≤ v ∧ v ≤ 1000000) (hf : FrOk n d) :
    (-200000000000000000 ≤ (busF v s n d).num ∧ (busF v s n d).num ≤ 200000000000000000) ∧ 0 ≤ ((busF v s n d).den : Int) ∧ ((busF v s n d).den : Int) ≤ 100000000000 := by
  obtain ⟨b1, _, _, b4⟩ := by_bds hs hv hf
  have l := lo_rat (busN v s n d) (show 0 < busD s d by omega)
  have h1 := tdiv_sm (a := busN v s n d) (b := gcdI (busN v s n d) (busD s d)) (m := 200000000000000000) b4 (by decide)
  have h2 := tdiv_sm (a := busD s d) (b := gcdI (busN v s n d) (busD s d)) (m := 100000000000) (by unfold Sm; omega) (by decide)
  rw [show (busN v s n d).tdiv (gcdI (busN v s n d) (busD s d)) = (busF v s n d).num from l.1] at h1
  rw [show (busD s d).tdiv (gcdI (busN v s n d) (busD s d)) = ((busF v s n d).den : Int) from l.2] at h2
  unfold Sm at h1 h2
  have := (busF v s n d).den_nz
  omega
theorem scan_at {E : Nat → Int} {n i : Nat} (h : i < n) : scanC E (n - i) i = if E i = 0 then scanC E (n - (i + 1)) (i + 1) else (i, E i) := by
  obtain ⟨k, rfl⟩ : ∃ k, n = i + (k + 1) := ⟨n - i - 1, by omega⟩
  rw [show i + (k + 1) - i = k + 1 by omega, show i + (k + 1) - (i + 1) = k by omega, scanC]
theorem fv2_1 {a b : Int} (h : a ≠ 0) : firstV [a, b] = a := by simp [firstV, h]
theorem fv2_2 {b : Int} : firstV [0, b] = b := by simp [firstV]; intro h; exact h.symm
theorem cross_all {ls : List Src} {f : Src → Int} {load n d : Int} {x y : Int} (hx : (busF (f (ls.getD 0 default)) (ls.getD 0 default) n d).num = x) (hy : ((busF (f (ls.getD 0 default)) (ls.getD 0 default) n d).den : Int) = y) :
    crossB ls f load n d = decide (x * sumI ls ls.length = dropI ls f load ls.length * y) := by
  unfold crossB sumI dropI
  rw [hx, hy, List.take_length]
theorem check_err {ls : List Src} {p q : Int} {cs : List Cu} (h : loadE ls p q ≠ 0) : checkV ls p q cs = (0, loadE ls p q) := by
  unfold checkV
  rw [fv2_1 h, if_neg h]
theorem check_len {ls : List Src} {p q : Int} {cs : List Cu} (h : loadE ls p q = 0) (hl : cs.length ≠ ls.length) : checkV ls p q cs = (0, 10) := by
  unfold checkV
  rw [h, fv2_2, decide_eq_false hl]
  rfl
theorem check_ok {ls : List Src} {p q : Int} {cs : List Cu} (h : loadE ls p q = 0) (hl : cs.length = ls.length) : checkV ls p q cs = checkC ls p q cs := by
  unfold checkV
  rw [h, fv2_2, decide_eq_true hl]
  rfl
theorem checkC_scan {ls : List Src} {p q : Int} {cs : List Cu} (h : (scanC (curEs ls cs) cs.length 0).2 ≠ 0) : checkC ls p q cs = scanC (curEs ls cs) cs.length 0 := by
  unfold checkC
  rw [if_neg h]
theorem checkC_open {ls : List Src} {p q : Int} {cs : List Cu} (h : (scanC (curEs ls cs) cs.length 0).2 = 0) (b : Bool) (hb : openB ls p q (cs.getD 0 default) = b) : checkC ls p q cs = if b = true then (0, 0) else (0, 21) := by
  unfold checkC
  rw [if_pos h, hb]

set_option maxHeartbeats 4000000 in
set_option maxRecDepth 100000 in
theorem CheckCurrents_err (B : Nat) (ls : List Src) (A : Option Addr) (c : Nat) (cs : List Cu) (A2 : Option Addr) (c2 : Nat) (p q : Int) (w : World) (hr : SrcsIn B w A ls) (hB : B ≤ w.heap.size) (h64 : ∀ s ∈ ls, Src64 s) (h0 : loadE ls p q ≠ 0) :
    Calls Tryz.prog 9 #[.slice A ls.length c, .agg #[.int .i64 p, .int .i64 q], .slice A2 cs.length c2] w fun r w' => r = .returned (.tuple #[.int .i64 0, .int .i64 (loadE ls p q)]) ∧ Below w.heap.size w w' := by
  have HE := Lib.hid (fun W (hb : Below w.heap.size w W) => sourcesErr_any W.heap.size ls A c p q W (((hr.more hB).below hb).more hb.size) (Nat.le_refl _) h64)
  have e1 : (loadE ls p q != 0) = true := by simpa using h0
  have e2 : ¬ loadE ls p q = 0 := h0
  have HF := Lib.hid (fun y => fv2_1 (b := y) h0)
  clear hr hB h64 h0
  generalize loadE ls p q = E at *
  generalize ls.length = n at *
  generalize cs.length = m at *
  go_enter Tryz.func9, Tryz.ntmps9
  go_wp2_with (first
    | (go_at_call 40; (with_reducible refine (HE.out _ (pa pr)).mono ?_); rintro e w1 ⟨rfl, hb1⟩)
    | (go_at_call 46; (with_reducible refine (unless_any _ _ _).mono ?_); rintro e w' ⟨rfl, rfl⟩)
    | (go_at_call 45; refine (gfirst2 _ _ _ _ _ (by first | (go_simp; done) | (go_simp; rfl)) (by first | (go_simp; done) | (go_simp; rfl)) E (HF.out _)).mono ?_; rintro e w' ⟨rfl, rfl⟩))
  go_ret2
  exact ⟨rfl, pa (pt (pa pr) hb1)⟩

set_option maxHeartbeats 4000000 in
set_option maxRecDepth 100000 in
theorem CheckCurrents_len (B : Nat) (ls : List Src) (A : Option Addr) (c : Nat) (cs : List Cu) (A2 : Option Addr) (c2 : Nat) (p q : Int) (w : World) (hr : SrcsIn B w A ls) (hB : B ≤ w.heap.size) (h64 : ∀ s ∈ ls, Src64 s) (h0 : loadE ls p q = 0) (hl : cs.length ≠ ls.length) :
    Calls Tryz.prog 9 #[.slice A ls.length c, .agg #[.int .i64 p, .int .i64 q], .slice A2 cs.length c2] w fun r w' => r = .returned (.tuple #[.int .i64 0, .int .i64 10]) ∧ Below w.heap.size w w' := by
  have HE := Lib.hid (fun W (hb : Below w.heap.size w W) => sourcesErr_any W.heap.size ls A c p q W (((hr.more hB).below hb).more hb.size) (Nat.le_refl _) h64)
  rw [h0] at HE
  clear hr hB h64 h0
  generalize ls.length = n at *
  generalize cs.length = m at *
  have e1 : ((m : Int) == (n : Int)) = false := beq_eq_false_iff_ne.2 (by omega)
  have e2 : ¬ (m : Int) = (n : Int) := by omega
  go_enter Tryz.func9, Tryz.ntmps9
  go_wp2_with (first
    | (go_at_call 40; (with_reducible refine (HE.out _ (pa pr)).mono ?_); rintro e w1 ⟨rfl, hb1⟩)
    | (go_at_call 46; (with_reducible refine (un_f _ _).mono ?_); rintro e w' ⟨rfl, rfl⟩)
    | (go_at_call 45; refine (gfirst2 _ _ _ _ _ (by first | (go_simp; done) | (go_simp; rfl)) (by first | (go_simp; done) | (go_simp; rfl)) 10 rfl).mono ?_; rintro e w' ⟨rfl, rfl⟩))
  go_ret2
  exact ⟨rfl, pa (pt (pa pr) hb1)⟩

set_option maxHeartbeats 16000000 in
set_option maxRecDepth 100000 in
theorem CheckCurrents_ok (B : Nat) (ls : List Src) (A : Option Addr) (c : Nat) (cs : List Cu) (A2 : Option Addr) (c2 : Nat) (p q : Int) (w : World) (hr : SrcsIn B w A ls) (hr2 : CusIn B w A2 cs) (hB : B ≤ w.heap.size) (h64 : ∀ s ∈ ls, Src64 s) (h64c : ∀ s ∈ cs, Cu64 s) (h0 : loadE ls p q = 0) (hl : cs.length = ls.length) :
    Calls Tryz.prog 9 #[.slice A ls.length c, .agg #[.int .i64 p, .int .i64 q], .slice A2 cs.length c2] w fun r w' => r = .returned (.tuple #[.int .i64 (checkC ls p q cs).1, .int .i64 (checkC ls p q cs).2]) ∧ Below w.heap.size w w' := by
  have HE := Lib.hid (fun W (hb : Below w.heap.size w W) => sourcesErr_any W.heap.size ls A c p q W (((hr.more hB).below hb).more hb.size) (Nat.le_refl _) h64)
  rw [h0] at HE
  obtain ⟨hok, hp, hq⟩ := loadE_ok h0
  have HCE := Lib.hid (show ∀ W i, Below w.heap.size w W → i < ls.length → (∀ j, j < i → curEs ls cs j = 0) → Calls Tryz.prog 47 #[.slice A ls.length c, .slice A2 ls.length c2, .int .i64 (i : Int)] W fun r w' => r = .returned (.int .i64 (curEs ls cs i)) ∧ Below W.heap.size W w' from fun W i hW hi hz => by
    have q := currentErr_any W.heap.size ls A c cs A2 c2 i W (((hr.more hB).below hW).more hW.size) (((hr2.more hB).below hW).more hW.size) (Nat.le_refl _) hi hl hok h64c (by
      rcases Nat.eq_zero_or_pos i with h | h
      · exact .inl h
      · exact .inr (curE_ok (hz 0 h)).1)
    rw [hl] at q
    exact q)
  have HBp := Lib.hid (fun W (hb : Below w.heap.size w W) => busOf_Pany W.heap.size ls A c p W (((hr.more hB).below hb).more hb.size) (Nat.le_refl _) hok hp)
  have HBq := Lib.hid (fun W (hb : Below w.heap.size w W) => busOf_Qany W.heap.size ls A c q W (((hr.more hB).below hb).more hb.size) (Nat.le_refl _) hok hq)
  have hn := hok.1.1
  have hok0 := hok.at_ hn
  have HB0 := Lib.hid (show curEs ls cs 0 = 0 → CuOk (cs.getD 0 default) from fun h => (curE_ok h).1)
  have HDp := Lib.hid (dropI_bd hok (src_p hok) hp ls.length)
  have HDq := Lib.hid (dropI_bd hok (src_q hok) hq ls.length)
  have HSu := Lib.hid (sumI_bd hok ls.length)
  have HL4 := Lib.hid hok.1.2
  obtain ⟨b, off, hA, hb, hct⟩ := hr.at_ hn
  subst hA
  obtain ⟨b2, off2, hA2, hb2, hct2⟩ := hr2.at_ (k := 0) (by rw [hl]; exact hn)
  subst hA2
  have hS0 := hct 0 hn
  have hC0 := hct2 0 (by rw [hl]; exact hn)
  have hbw : b < w.heap.size := Nat.lt_of_lt_of_le hb hB
  have hb2w : b2 < w.heap.size := Nat.lt_of_lt_of_le hb2 hB
  rw [Nat.zero_mul, Nat.add_zero] at hS0 hC0
  rw [hl]
  have HScan := Lib.hid (fun i (hi : i < ls.length) => scan_at (E := curEs ls cs) hi)
  have HChk := Lib.hid (show (scanC (curEs ls cs) ls.length 0).2 ≠ 0 → checkC ls p q cs = scanC (curEs ls cs) ls.length 0 from fun h => by rw [← hl] at h ⊢; exact checkC_scan h)
  have HOpn := Lib.hid (show (scanC (curEs ls cs) ls.length 0).2 = 0 → ∀ b, (crossB ls Src.p p (cs.getD 0 default).pn (cs.getD 0 default).pd && crossB ls Src.q q (cs.getD 0 default).qn (cs.getD 0 default).qd) = b → checkC ls p q cs = if b = true then (0, 0) else (0, 21) from fun h b hb => by rw [← hl] at h; exact checkC_open h b hb)
  have HCrP := Lib.hid (fun (x y : Int) => cross_all (ls := ls) (f := Src.p) (load := p) (n := (cs.getD 0 default).pn) (d := (cs.getD 0 default).pd) (x := x) (y := y))
  have HCrQ := Lib.hid (fun (x y : Int) => cross_all (ls := ls) (f := Src.q) (load := q) (n := (cs.getD 0 default).qn) (d := (cs.getD 0 default).qd) (x := x) (y := y))
  clear hct hct2 hr hr2 h64 h64c hok hl h0 hp hq
  generalize ls.getD 0 default = t at *
  generalize cs.getD 0 default = cz at *
  obtain ⟨tp, tq, tn, td⟩ := t
  obtain ⟨zpn, zpd, zqn, zqd⟩ := cz
  dsimp only at hS0 hC0 HCrP HCrQ HOpn
  have HCells := Lib.hid (show ∀ W, Below w.heap.size w W → (W.cell? ⟨b, off, none⟩ = some (.int .i64 tp) ∧ W.cell? ⟨b, off + 1, none⟩ = some (.int .i64 tq) ∧ W.cell? ⟨b, off + 2, none⟩ = some (.int .i64 tn) ∧ W.cell? ⟨b, off + 3, none⟩ = some (.int .i64 td) ∧ b < W.heap.size) ∧
      (W.cell? ⟨b2, off2, none⟩ = some (.int .i64 zpn) ∧ W.cell? ⟨b2, off2 + 1, none⟩ = some (.int .i64 zpd) ∧ W.cell? ⟨b2, off2 + 2, none⟩ = some (.int .i64 zqn) ∧ W.cell? ⟨b2, off2 + 3, none⟩ = some (.int .i64 zqd) ∧ b2 < W.heap.size) from fun W hW =>
    ⟨⟨((bcell hW).1 _ _ hbw).trans hS0.1, ((bcell hW).1 _ _ hbw).trans hS0.2.1, ((bcell hW).1 _ _ hbw).trans hS0.2.2.1, ((bcell hW).1 _ _ hbw).trans hS0.2.2.2, Nat.lt_of_lt_of_le hbw hW.size⟩,
     ⟨((bcell hW).1 _ _ hb2w).trans hC0.1, ((bcell hW).1 _ _ hb2w).trans hC0.2.1, ((bcell hW).1 _ _ hb2w).trans hC0.2.2.1, ((bcell hW).1 _ _ hb2w).trans hC0.2.2.2, Nat.lt_of_lt_of_le hb2w hW.size⟩⟩)
  have HOk0 := Lib.hid hok0
  clear hS0 hC0 hb hb2 hbw hb2w hB hok0
  generalize curEs ls cs = E at *
  generalize checkC ls p q cs = R at *
  generalize dropI ls Src.p p ls.length = drp at *
  generalize dropI ls Src.q q ls.length = drq at *
  generalize sumI ls ls.length = sm at *
  generalize ls.length = n at *
  have hn2 : (0 : Int) < (n : Int) := src_lt hn
  go_enter Tryz.func9, Tryz.ntmps9
  go_wp2_with (first
    | (go_at_call 40; (with_reducible refine (HE.out _ (pa pr)).mono ?_); rintro e w1 ⟨rfl, hb1⟩; have L1 := Lib.hid ((Blk.newAt (w := w) (t := 24) (cs := #[.int .i64 p, .int .i64 q]) rfl).past hb1); have S1 := Lib.hid (pt (pa (pr (w := w))) hb1); clear hb1)
    | (go_at_call 46; (with_reducible refine (un_t _ _).mono ?_); rintro e w' ⟨rfl, rfl⟩)
    | (go_at_call 45; refine (gfirst2 _ _ _ _ _ (by first | (go_simp; done) | (go_simp; rfl)) (by first | (go_simp; done) | (go_simp; rfl)) 0 rfl).mono ?_; rintro e w' ⟨rfl, rfl⟩))
  have L2 := Lib.hid (L1.out.alloc (o := .cells #[.int .i64 0, .int .i64 0] 29))
  have S2 := Lib.hid (pa (o := .cells #[.int .i64 0, .int .i64 0] 29) S1.out)
  clear L1 S1
  generalize w1.alloc (.cells #[.int .i64 0, .int .i64 0] 29) = v at *
  go_loopw [31] (fun iv wr => ∃ i : Nat, iv = .int .i64 (i : Int) ∧ i ≤ n ∧ scanC E n 0 = scanC E (n - i) i ∧ (∀ j, j < i → E j = 0) ∧ Blk wr w.heap.size 24 #[.int .i64 p, .int .i64 q] ∧ Below w.heap.size w wr) (fun iv _ => n - (intOf iv).toNat)
  case atStart => exact ⟨0, rfl, Nat.zero_le _, by rw [Nat.sub_zero], fun j hj => absurd hj (Nat.not_lt_zero _), L2.out, S2.out⟩
  case round =>
    obtain ⟨i, rfl, hi, hsc, hze, hL, hS⟩ := hrel
    have HSc := Lib.hid hsc
    have HZe := Lib.hid hze
    have L := Lib.hid hL
    have S := Lib.hid hS
    have i0 := src_cast i
    clear hsc hze hL hS
    by_cases hlt : i < n
    · as_aux_lemma =>
      have i1 := src_lt hlt
      have i9 : (i : Int) ≤ 4 := by have := HL4.out; omega
      have HI := Lib.hid hlt
      have HN := Lib.hid (HScan.out i hlt)
      have HC := Lib.hid (HCE.out wr i S.out hlt HZe.out)
      obtain ⟨Ei, hEi⟩ : ∃ x, E i = x := ⟨_, rfl⟩
      rw [hEi] at HC HN
      have HEi := Lib.hid hEi
      clear hEi
      by_cases h0 : Ei = 0
      · subst h0
        rw [if_pos rfl] at HN
        go_wp2_with (go_at_call 47; (with_reducible refine HC.out.mono ?_); rintro e w2 ⟨rfl, hb2⟩)
        go_roundw
        case rel => exact ⟨i + 1, src_succ _, Nat.succ_le_of_lt HI.out, HSc.out.trans HN.out, fun j hj => (Nat.lt_succ_iff_lt_or_eq.1 hj).elim (fun h => HZe.out j h) (fun h => h ▸ HEi.out), L.out.past hb2, pt S.out hb2⟩
        case measure => exact src_meas HI.out
      · rw [if_neg h0] at HN
        have hb : (Ei != 0) = true := by simpa using h0
        have HR := Lib.hid (show R = ((i : Int), Ei) by
          have h1 := HSc.out.trans HN.out
          rw [HChk.out (by rw [h1]; exact h0), h1])
        go_wp2_with (go_at_call 47; (with_reducible refine HC.out.mono ?_); rintro e w2 ⟨rfl, hb2⟩)
        go_ret2
        exact ⟨by first | (rw [HR.out]; done) | (rw [HR.out]; rfl), pt S.out hb2⟩
    · obtain rfl : i = n := Nat.le_antisymm hi (Nat.le_of_not_lt hlt)
      as_aux_lemma =>
      have hz0 : (scanC E i 0).2 = 0 := by rw [HSc.out, Nat.sub_self]; rfl
      have HOpn := Lib.hid (HOpn.out hz0)
      have HCuOk := Lib.hid (HB0.out (HZe.out 0 hn))
      clear hz0 HSc HZe HScan HChk HCE HE
      have HBy1 := Lib.hid (fun w => busBy_any tp tq tn td tp zpn zpd HOk0.out HOk0.out.1 HCuOk.out.1 w)
      have HBy2 := Lib.hid (fun w => busBy_any tp tq tn td tq zqn zqd HOk0.out HOk0.out.2.1 HCuOk.out.2 w)
      have HBd1 := Lib.hid (busF_bds HOk0.out HOk0.out.1 HCuOk.out.1)
      have HBd2 := Lib.hid (busF_bds HOk0.out HOk0.out.2.1 HCuOk.out.2)
      have HCr1 := Lib.hid (HCrP.out _ _ rfl rfl)
      have HCr2 := Lib.hid (HCrQ.out _ _ rfl rfl)
      clear HCrP HCrQ HCuOk HOk0 HB0
      dsimp only at HBy1 HBy2 HBd1 HBd2 HCr1 HCr2
      generalize busF tp ⟨tp, tq, tn, td⟩ zpn zpd = r1 at *
      generalize busF tq ⟨tp, tq, tn, td⟩ zqn zqd = r2 at *
      generalize r1.num = fn1 at *
      generalize (r1.den : Int) = fd1 at *
      generalize r2.num = fn2 at *
      generalize (r2.den : Int) = fd2 at *
      have HEq1 := Lib.hid (fun w => equalProducts_any fn1 sm drp fd1 (by have := HBd1.out; unfold Sm; omega) (by have := HSu.out; unfold Sm; omega) (by have := HDp.out; unfold Sm; omega) (by have := HBd1.out; unfold Sm; omega) w)
      have HEq2 := Lib.hid (fun w => equalProducts_any fn2 sm drq fd2 (by have := HBd2.out; unfold Sm; omega) (by have := HSu.out; unfold Sm; omega) (by have := HDq.out; unfold Sm; omega) (by have := HBd2.out; unfold Sm; omega) w)
      rw [← HCr1.out] at HEq1
      rw [← HCr2.out] at HEq2
      clear HBd1 HBd2 HCr1 HCr2 HSu HDp HDq
      generalize crossB ls Src.p p zpn zpd = k1 at *
      generalize crossB ls Src.q q zqn zqd = k2 at *
      go_wp2_with (go_at_call 41; refine (parts_any _).mono ?_; rintro e w2 ⟨rfl, hb2⟩)
      have L := Lib.hid (L.out.past hb2)
      have S := Lib.hid (pt S.out hb2)
      clear hb2
      obtain ⟨v, rfl⟩ : ∃ v, v = w2 := ⟨_, rfl⟩
      refine wp_loop_rounds 3 ?_
      rw [rounds_succ]
      have PN : Blk (v.alloc (.cells #[.nilFunc, .nilFunc] 108)) v.heap.size 108 #[.nilFunc, .nilFunc] := Blk.new _ _ _
      go_wp2_with ((with_reducible refine store_blk (T := 108) (x := .tmp 12) (y := .tmp 46) (vs := #[.func (.func 86) #[] #[], .func (.func 87) #[] #[]]) PN ?_ ?_ ?_ ?_ ?_ ?_); (focus rfl); (focus exact part_size); (focus (simp [Value.oneCell']; done)); (focus rfl); (focus rfl); intro v3 P1 PP)
      have HLv := Lib.hid L.out.lt
      have L := Lib.hid (L.out.alloc.put PP (Nat.ne_of_lt L.out.lt))
      have S := Lib.hid (pp (pa S.out) PP S.out.size)
      have hwp : w.heap.size < v.heap.size := HLv.out
      generalize v.heap.size = pb at *
      clear PN PP
      as_aux_lemma =>
      have l0 := L.out.cellAt 0 rfl
      have l1 := L.out.cellAt 1 rfl
      have ll := L.out.lt
      have pf0 := P1.cellAt 0 rfl
      have pf1 := P1.cellAt 1 rfl
      have pl := P1.lt
      refine region_alloc (zc := (.cells #[.int .i64 0, .int .i64 0] 112)) 7 follows_mixed (by kernel_rfl) rfl (fun _ _ => by kernel_rfl) ?_
      simp only [List.take_succ_cons, List.take_zero, List.drop_succ_cons, List.drop_zero]
      repeat (first
        | ((with_reducible apply grow_plain); (focus rfl); (focus (intro w' hw; obtain ⟨hcq, hfq⟩ := bcell hw; go_simp; (first | done | rfl | (with_reducible exact (part_1 _ _ _)) | (with_reducible exact (HBp.out _ (pt S.out hw)))))); (simp only [Act.put, List.setIfInBounds_toArray, List.set_cons_succ, List.set_cons_zero]))
        | ((with_reducible apply grow_skip); (focus (first | (simp [Region.wanted, yielded]; done) | (simp [Region.wanted, yielded, undef]; done))); simp only [Act.put, List.setIfInBounds_toArray, List.set_cons_succ, List.set_cons_zero])
        | ((with_reducible apply grow_go); (focus (first | (simp [Region.wanted, yielded]; done) | (simp [Region.wanted, yielded, undef]; done))); (focus (intro w' hw; obtain ⟨hcq, hfq⟩ := bcell hw; go_simp; (first | done | rfl | (with_reducible exact (part_1 _ _ _)) | (with_reducible exact (HBp.out _ (pt S.out hw)))))); (simp only [Act.put, List.setIfInBounds_toArray, List.set_cons_succ, List.set_cons_zero])))
      refine grow_nil ?_
      intro v1 w1 hv1 hb1
      simp only [List.setIfInBounds_toArray, List.set_cons_succ, List.set_cons_zero]
      have L := Lib.hid ((L.out.past hv1).alloc.past hb1)
      have P2 := (P1.past hv1).alloc.past hb1
      have K2 := (Blk.new v1 112 #[.int .i64 0, .int .i64 0]).past hb1
      have S := Lib.hid (pt (pa (pt S.out hv1)) hb1)
      have hk : pb < v1.heap.size := (P1.past hv1).lt
      generalize v1.heap.size = kb at *
      clear hb1 hv1 l0 l1 ll pf0 pf1 pl P1
      have k0 := K2.cellAt 0 rfl
      have k1_ := K2.cellAt 1 rfl
      have f0 := K2.frozen 0
      have f1 := K2.frozen 1
      have kl := K2.lt
      go_wp2
      have L := Lib.hid (show Blk ((w1.setCell ⟨kb, 0, none⟩ (.int .i64 drp)).setCell ⟨kb, 1, none⟩ (.int .i64 sm)) w.heap.size 24 #[.int .i64 p, .int .i64 q] from (L.out.far (Nat.ne_of_lt (Nat.lt_trans hwp hk))).far (Nat.ne_of_lt (Nat.lt_trans hwp hk)))
      have P3 : Blk ((w1.setCell ⟨kb, 0, none⟩ (.int .i64 drp)).setCell ⟨kb, 1, none⟩ (.int .i64 sm)) pb 108 #[.func (.func 86) #[] #[], .func (.func 87) #[] #[]] := (P2.far (Nat.ne_of_lt hk)).far (Nat.ne_of_lt hk)
      have K3 : Blk ((w1.setCell ⟨kb, 0, none⟩ (.int .i64 drp)).setCell ⟨kb, 1, none⟩ (.int .i64 sm)) kb 112 #[.int .i64 drp, .int .i64 sm] := (K2.set_ 0 _).set_ 1 _
      have S := Lib.hid (show Below w.heap.size w ((w1.setCell ⟨kb, 0, none⟩ (.int .i64 drp)).setCell ⟨kb, 1, none⟩ (.int .i64 sm)) from ps (ps S.out (Nat.le_of_lt (Nat.lt_trans hwp hk))) (Nat.le_of_lt (Nat.lt_trans hwp hk)))
      generalize ((w1.setCell ⟨kb, 0, none⟩ (.int .i64 drp)).setCell ⟨kb, 1, none⟩ (.int .i64 sm)) = v at *
      clear k0 k1_ f0 f1 kl K2 P2
      as_aux_lemma =>
      have pf0 := P3.cellAt 0 rfl
      have pf1 := P3.cellAt 1 rfl
      have pl := P3.lt
      obtain ⟨⟨z0, z1, z2, z3, zl⟩, ⟨c0, c1, c2, c3, cl⟩⟩ := HCells.out _ S.out
      refine region_alloc (zc := (.cells #[.int .i64 0, .int .i64 0] 59)) 18 follows_mixed (by kernel_rfl) rfl (fun _ _ => by kernel_rfl) ?_
      simp only [List.take_succ_cons, List.take_zero, List.drop_succ_cons, List.drop_zero]
      repeat (first
        | ((with_reducible apply grow_plain); (focus rfl); (focus (intro w' hw; obtain ⟨hcq, hfq⟩ := bcell hw; go_simp; (first | done | rfl | (with_reducible exact (part_1 _ _ _)) | (with_reducible exact (partB_2 _ _ _)) | (with_reducible exact (HBy1.out _))))); (simp only [Act.put, List.setIfInBounds_toArray, List.set_cons_succ, List.set_cons_zero]))
        | ((with_reducible apply grow_skip); (focus (first | (simp [Region.wanted, yielded]; done) | (simp [Region.wanted, yielded, undef]; done))); simp only [Act.put, List.setIfInBounds_toArray, List.set_cons_succ, List.set_cons_zero])
        | ((with_reducible apply grow_go); (focus (first | (simp [Region.wanted, yielded]; done) | (simp [Region.wanted, yielded, undef]; done))); (focus (intro w' hw; obtain ⟨hcq, hfq⟩ := bcell hw; go_simp; (first | done | rfl | (with_reducible exact (part_1 _ _ _)) | (with_reducible exact (partB_2 _ _ _)) | (with_reducible exact (HBy1.out _))))); (simp only [Act.put, List.setIfInBounds_toArray, List.set_cons_succ, List.set_cons_zero])))
      refine grow_nil ?_
      intro v1 w1 hv1 hb1
      simp only [List.setIfInBounds_toArray, List.set_cons_succ, List.set_cons_zero]
      have L := Lib.hid ((L.out.past hv1).alloc.past hb1)
      have K4 := (K3.past hv1).alloc.past hb1
      have F4 := (Blk.new v1 59 #[.int .i64 0, .int .i64 0]).past hb1
      have S := Lib.hid (pt (pa (pt S.out hv1)) hb1)
      have hf : kb < v1.heap.size := (K3.past hv1).lt
      generalize v1.heap.size = fb at *
      clear hb1 hv1 pf0 pf1 pl z0 z1 z2 z3 zl c0 c1 c2 c3 cl P3 K3
      have k0 := K4.cellAt 0 rfl
      have k1_ := K4.cellAt 1 rfl
      have kl := K4.lt
      have f0 := F4.cellAt 0 rfl
      have f1 := F4.cellAt 1 rfl
      have g0 := F4.frozen 0
      have g1 := F4.frozen 1
      have fl := F4.lt
      have hwf := Nat.lt_trans (Nat.lt_trans hwp hk) hf
      have SW := Lib.hid (show Below w.heap.size w ((w1.setCell ⟨fb, 0, none⟩ (.int .i64 fn1)).setCell ⟨fb, 1, none⟩ (.int .i64 fd1)) from ps (ps S.out (Nat.le_of_lt hwf)) (Nat.le_of_lt hwf))
      have LW := Lib.hid (show Blk ((w1.setCell ⟨fb, 0, none⟩ (.int .i64 fn1)).setCell ⟨fb, 1, none⟩ (.int .i64 fd1)) w.heap.size 24 #[.int .i64 p, .int .i64 q] from (L.out.far (Nat.ne_of_lt hwf)).far (Nat.ne_of_lt hwf))
      have hne := Nat.ne_of_lt hf
      cases k1 with
      | false =>
        have HR := Lib.hid (show R = (0, 21) from HOpn.out false (Bool.false_and _))
        go_wp2_with (go_at_call 49; (with_reducible refine (HEq1.out _).mono ?_); rintro e w' ⟨rfl, rfl⟩)
        go_ret2
        exact ⟨by first | (rw [HR.out]; done) | (rw [HR.out]; rfl), SW.out⟩
      | true =>
        rw [Bool.true_and] at HOpn
        go_wp2_with (go_at_call 49; (with_reducible refine (HEq1.out _).mono ?_); rintro e w' ⟨rfl, rfl⟩)
        have L := Lib.hid LW.out
        have S := Lib.hid SW.out
        generalize ((w1.setCell ⟨fb, 0, none⟩ (.int .i64 fn1)).setCell ⟨fb, 1, none⟩ (.int .i64 fd1)) = v at *
        clear k0 k1_ kl f0 f1 g0 g1 fl F4 K4 LW SW hf hk hwf hne HEq1 HBy1
        rw [rounds_succ]
        have PN : Blk (v.alloc (.cells #[.nilFunc, .nilFunc] 108)) v.heap.size 108 #[.nilFunc, .nilFunc] := Blk.new _ _ _
        go_wp2_with ((with_reducible refine store_blk (T := 108) (x := .tmp 12) (y := .tmp 46) (vs := #[.func (.func 88) #[] #[], .func (.func 89) #[] #[]]) PN ?_ ?_ ?_ ?_ ?_ ?_); (focus rfl); (focus exact part_size); (focus (simp [Value.oneCell']; done)); (focus rfl); (focus rfl); intro v3 P1 PP)
        have HLv := Lib.hid L.out.lt
        have L := Lib.hid (L.out.alloc.put PP (Nat.ne_of_lt L.out.lt))
        have S := Lib.hid (pp (pa S.out) PP S.out.size)
        have hwp : w.heap.size < v.heap.size := HLv.out
        generalize v.heap.size = pb at *
        clear PN PP
        as_aux_lemma =>
        have l0 := L.out.cellAt 0 rfl
        have l1 := L.out.cellAt 1 rfl
        have ll := L.out.lt
        have pf0 := P1.cellAt 0 rfl
        have pf1 := P1.cellAt 1 rfl
        have pl := P1.lt
        refine region_alloc (zc := (.cells #[.int .i64 0, .int .i64 0] 112)) 7 follows_mixed (by kernel_rfl) rfl (fun _ _ => by kernel_rfl) ?_
        simp only [List.take_succ_cons, List.take_zero, List.drop_succ_cons, List.drop_zero]
        repeat (first
          | ((with_reducible apply grow_plain); (focus rfl); (focus (intro w' hw; obtain ⟨hcq, hfq⟩ := bcell hw; go_simp; (first | done | rfl | (with_reducible exact (part_3 _ _ _)) | (with_reducible exact (HBq.out _ (pt S.out hw)))))); (simp only [Act.put, List.setIfInBounds_toArray, List.set_cons_succ, List.set_cons_zero]))
          | ((with_reducible apply grow_skip); (focus (first | (simp [Region.wanted, yielded]; done) | (simp [Region.wanted, yielded, undef]; done))); simp only [Act.put, List.setIfInBounds_toArray, List.set_cons_succ, List.set_cons_zero])
          | ((with_reducible apply grow_go); (focus (first | (simp [Region.wanted, yielded]; done) | (simp [Region.wanted, yielded, undef]; done))); (focus (intro w' hw; obtain ⟨hcq, hfq⟩ := bcell hw; go_simp; (first | done | rfl | (with_reducible exact (part_3 _ _ _)) | (with_reducible exact (HBq.out _ (pt S.out hw)))))); (simp only [Act.put, List.setIfInBounds_toArray, List.set_cons_succ, List.set_cons_zero])))
        refine grow_nil ?_
        intro v1 w1 hv1 hb1
        simp only [List.setIfInBounds_toArray, List.set_cons_succ, List.set_cons_zero]
        have L := Lib.hid ((L.out.past hv1).alloc.past hb1)
        have P2 := (P1.past hv1).alloc.past hb1
        have K2 := (Blk.new v1 112 #[.int .i64 0, .int .i64 0]).past hb1
        have S := Lib.hid (pt (pa (pt S.out hv1)) hb1)
        have hk : pb < v1.heap.size := (P1.past hv1).lt
        generalize v1.heap.size = kb at *
        clear hb1 hv1 l0 l1 ll pf0 pf1 pl P1
        have k0 := K2.cellAt 0 rfl
        have k1_ := K2.cellAt 1 rfl
        have f0 := K2.frozen 0
        have f1 := K2.frozen 1
        have kl := K2.lt
        go_wp2
        have L := Lib.hid (show Blk ((w1.setCell ⟨kb, 0, none⟩ (.int .i64 drq)).setCell ⟨kb, 1, none⟩ (.int .i64 sm)) w.heap.size 24 #[.int .i64 p, .int .i64 q] from (L.out.far (Nat.ne_of_lt (Nat.lt_trans hwp hk))).far (Nat.ne_of_lt (Nat.lt_trans hwp hk)))
        have P3 : Blk ((w1.setCell ⟨kb, 0, none⟩ (.int .i64 drq)).setCell ⟨kb, 1, none⟩ (.int .i64 sm)) pb 108 #[.func (.func 88) #[] #[], .func (.func 89) #[] #[]] := (P2.far (Nat.ne_of_lt hk)).far (Nat.ne_of_lt hk)
        have K3 : Blk ((w1.setCell ⟨kb, 0, none⟩ (.int .i64 drq)).setCell ⟨kb, 1, none⟩ (.int .i64 sm)) kb 112 #[.int .i64 drq, .int .i64 sm] := (K2.set_ 0 _).set_ 1 _
        have S := Lib.hid (show Below w.heap.size w ((w1.setCell ⟨kb, 0, none⟩ (.int .i64 drq)).setCell ⟨kb, 1, none⟩ (.int .i64 sm)) from ps (ps S.out (Nat.le_of_lt (Nat.lt_trans hwp hk))) (Nat.le_of_lt (Nat.lt_trans hwp hk)))
        generalize ((w1.setCell ⟨kb, 0, none⟩ (.int .i64 drq)).setCell ⟨kb, 1, none⟩ (.int .i64 sm)) = v at *
        clear k0 k1_ f0 f1 kl K2 P2
        as_aux_lemma =>
        have pf0 := P3.cellAt 0 rfl
        have pf1 := P3.cellAt 1 rfl
        have pl := P3.lt
        obtain ⟨⟨z0, z1, z2, z3, zl⟩, ⟨c0, c1, c2, c3, cl⟩⟩ := HCells.out _ S.out
        refine region_alloc (zc := (.cells #[.int .i64 0, .int .i64 0] 59)) 18 follows_mixed (by kernel_rfl) rfl (fun _ _ => by kernel_rfl) ?_
        simp only [List.take_succ_cons, List.take_zero, List.drop_succ_cons, List.drop_zero]
        repeat (first
          | ((with_reducible apply grow_plain); (focus rfl); (focus (intro w' hw; obtain ⟨hcq, hfq⟩ := bcell hw; go_simp; (first | done | rfl | (with_reducible exact (part_3 _ _ _)) | (with_reducible exact (partB_4 _ _ _)) | (with_reducible exact (HBy2.out _))))); (simp only [Act.put, List.setIfInBounds_toArray, List.set_cons_succ, List.set_cons_zero]))
          | ((with_reducible apply grow_skip); (focus (first | (simp [Region.wanted, yielded]; done) | (simp [Region.wanted, yielded, undef]; done))); simp only [Act.put, List.setIfInBounds_toArray, List.set_cons_succ, List.set_cons_zero])
          | ((with_reducible apply grow_go); (focus (first | (simp [Region.wanted, yielded]; done) | (simp [Region.wanted, yielded, undef]; done))); (focus (intro w' hw; obtain ⟨hcq, hfq⟩ := bcell hw; go_simp; (first | done | rfl | (with_reducible exact (part_3 _ _ _)) | (with_reducible exact (partB_4 _ _ _)) | (with_reducible exact (HBy2.out _))))); (simp only [Act.put, List.setIfInBounds_toArray, List.set_cons_succ, List.set_cons_zero])))
        refine grow_nil ?_
        intro v1 w1 hv1 hb1
        simp only [List.setIfInBounds_toArray, List.set_cons_succ, List.set_cons_zero]
        have L := Lib.hid ((L.out.past hv1).alloc.past hb1)
        have K4 := (K3.past hv1).alloc.past hb1
        have F4 := (Blk.new v1 59 #[.int .i64 0, .int .i64 0]).past hb1
        have S := Lib.hid (pt (pa (pt S.out hv1)) hb1)
        have hf : kb < v1.heap.size := (K3.past hv1).lt
        generalize v1.heap.size = fb at *
        clear hb1 hv1 pf0 pf1 pl z0 z1 z2 z3 zl c0 c1 c2 c3 cl P3 K3
        have k0 := K4.cellAt 0 rfl
        have k1_ := K4.cellAt 1 rfl
        have kl := K4.lt
        have f0 := F4.cellAt 0 rfl
        have f1 := F4.cellAt 1 rfl
        have g0 := F4.frozen 0
        have g1 := F4.frozen 1
        have fl := F4.lt
        have hwf := Nat.lt_trans (Nat.lt_trans hwp hk) hf
        have SW := Lib.hid (show Below w.heap.size w ((w1.setCell ⟨fb, 0, none⟩ (.int .i64 fn2)).setCell ⟨fb, 1, none⟩ (.int .i64 fd2)) from ps (ps S.out (Nat.le_of_lt hwf)) (Nat.le_of_lt hwf))
        have LW := Lib.hid (show Blk ((w1.setCell ⟨fb, 0, none⟩ (.int .i64 fn2)).setCell ⟨fb, 1, none⟩ (.int .i64 fd2)) w.heap.size 24 #[.int .i64 p, .int .i64 q] from (L.out.far (Nat.ne_of_lt hwf)).far (Nat.ne_of_lt hwf))
        have hne := Nat.ne_of_lt hf
        cases k2 with
        | false =>
          have HR := Lib.hid (show R = (0, 21) from HOpn.out false rfl)
          go_wp2_with (go_at_call 49; (with_reducible refine (HEq2.out _).mono ?_); rintro e w' ⟨rfl, rfl⟩)
          go_ret2
          exact ⟨by first | (rw [HR.out]; done) | (rw [HR.out]; rfl), SW.out⟩
        | true =>
          go_wp2_with (go_at_call 49; (with_reducible refine (HEq2.out _).mono ?_); rintro e w' ⟨rfl, rfl⟩)
          have L := Lib.hid LW.out
          have S := Lib.hid SW.out
          generalize ((w1.setCell ⟨fb, 0, none⟩ (.int .i64 fn2)).setCell ⟨fb, 1, none⟩ (.int .i64 fd2)) = v at *
          clear k0 k1_ kl f0 f1 g0 g1 fl F4 K4 LW SW hf hk hwf hne HEq2 HBy2
          have HR := Lib.hid (show R = (0, 0) from HOpn.out true rfl)
          rw [rounds_succ]
          go_wp2
          go_ret2
          exact ⟨by first | (rw [HR.out]; done) | (rw [HR.out]; rfl), S.out⟩

theorem CheckCurrents_any (B : Nat) (ls : List Src) (A : Option Addr) (c : Nat) (cs : List Cu) (A2 : Option Addr) (c2 : Nat) (p q : Int) (w : World) (hr : SrcsIn B w A ls) (hr2 : CusIn B w A2 cs) (hB : B ≤ w.heap.size) (h64 : ∀ s ∈ ls, Src64 s) (h64c : ∀ s ∈ cs, Cu64 s) :
    Calls Tryz.prog 9 #[.slice A ls.length c, .agg #[.int .i64 p, .int .i64 q], .slice A2 cs.length c2] w fun r w' => r = .returned (.tuple #[.int .i64 (checkV ls p q cs).1, .int .i64 (checkV ls p q cs).2]) ∧ Below w.heap.size w w' := by
  by_cases h0 : loadE ls p q = 0
  · by_cases hl : cs.length = ls.length
    · rw [check_ok h0 hl]
      exact CheckCurrents_ok B ls A c cs A2 c2 p q w hr hr2 hB h64 h64c h0 hl
    · rw [check_len h0 hl]
      exact CheckCurrents_len B ls A c cs A2 c2 p q w hr hB h64 h0 hl
  · rw [check_err h0]
    exact CheckCurrents_err B ls A c cs A2 c2 p q w hr hB h64 h0

end Go.Proofs.YtpdkbhjcpddnpaaGreatDoor
end
