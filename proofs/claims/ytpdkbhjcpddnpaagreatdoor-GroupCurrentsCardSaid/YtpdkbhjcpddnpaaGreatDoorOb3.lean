/- Plain facts on long division, digit by digit. No program is in sight.
Contract: quotients of wide numbers, rounded down, digit by digit. -/
import Derived.Test.YtpdkbhjcpddnpaaGreatDoorOa1
import Derived.Test.YtpdkbhjcpddnpaaGreatDoorOb2

section
namespace Go.Proofs.YtpdkbhjcpddnpaaGreatDoor

/-- Of a long division by b, the digits from i on are done; R is left. -/
structure FloD (D zs : List Int) (b : Int) (i : Nat) (R : Int) : Prop where
  len : zs.length = D.length
  ok : okD zs
  zero : ∀ j, j < i → zs.getD j 0 = 0
  eq : valD (D.drop i) = valD (zs.drop i) * b + R
  r0 : 0 ≤ R
  r1 : R < b
theorem drop_getD {l : List Int} {i : Nat} (h : i < l.length) : l.drop i = l.getD i 0 :: l.drop (i + 1) := by
  rw [List.getD_eq_getElem?_getD, List.getElem?_eq_getElem h, Option.getD_some, List.drop_eq_getElem_cons h]
theorem drop_set {l : List Int} {i : Nat} (h : i < l.length) (d : Int) : (l.set i d).drop i = d :: l.drop (i + 1) := by
  rw [drop_getD (by rw [List.length_set]; exact h), List.drop_set_of_lt (by omega), List.getD_eq_getElem?_getD, List.getElem?_set_self h]
  rfl
theorem FloD.start {D : List Int} {b : Int} (hb : 0 < b) : FloD D (List.replicate D.length 0) b D.length 0 :=
  ⟨by simp, okD_replicate _, fun j hj => by rw [List.getD_eq_getElem?_getD, List.getElem?_eq_getElem (by simpa using hj)]; simp, by simp [valD], Int.le_refl _, hb⟩
/-- What is left, with the next digit ahead. -/
def leftD (D : List Int) (i : Nat) (R : Int) : Int := D.getD i 0 + wB * R
theorem left_bd {D : List Int} {b R : Int} (hD : okD D) (i : Nat) (h0 : 0 ≤ R) (h1 : R < b) : 0 ≤ leftD D i R ∧ leftD D i R < b * (999999999 + 1) := floor_first (by omega) ⟨h0, h1⟩ (okD_at hD i)
theorem FloD.step {D zs : List Int} {b : Int} {i : Nat} {R d : Int} (h : FloD D zs b (i + 1) R) (hi : i < D.length) (hd0 : 0 ≤ d ∧ d ≤ 999999999) (hd : b * d ≤ leftD D i R) (hd2 : leftD D i R < b * (d + 1)) : FloD D (zs.set i d) b i (leftD D i R - b * d) := by
  have hz : i < zs.length := by rw [h.len]; exact hi
  refine ⟨by rw [List.length_set, h.len], okD_set h.ok ⟨hd0.1, by unfold wB; omega⟩, fun j hj => ?_, ?_, by omega, ?_⟩
  · rw [getD_set _ (by omega)]; exact h.zero j (by omega)
  · rw [drop_getD hi, drop_set hz, valD, valD]
    exact floor_step h.eq
  · rw [Int.mul_add, Int.mul_one] at hd2; omega
theorem FloD.fin {D zs : List Int} {b R : Int} (h : FloD D zs b 0 R) : valD D = valD zs * b + R := by
  have := h.eq
  rwa [List.drop_zero, List.drop_zero] at this
/-- A quotient's size is at most that of the number. -/
theorem floor_sizes {a b Q R : Int} (hb : 0 < b) (h : (a.natAbs : Int) = Q * b + R) (h0 : 0 ≤ R) (h1 : R < b) (_hQ : 0 ≤ Q) :
    (0 < a → a / b = Q) ∧ (a < 0 → R = 0 → a / b = -Q) ∧ (a < 0 → R ≠ 0 → a / b = -Q - 1) := by
  refine ⟨fun ha => quot_of hb (by omega) h0 h1, fun ha hR => ?_, fun ha hR => ?_⟩
  · have := quot_neg hb h h0 h1
    rw [if_pos hR, show -(a.natAbs : Int) = a by omega] at this
    exact this
  · have := quot_neg hb h h0 h1
    rw [if_neg hR, show -(a.natAbs : Int) = a by omega] at this
    exact this
/-- Halving. -/
theorem half_bd {lo hi : Int} (h0 : 0 ≤ lo) (h1 : lo < hi) (_h2 : hi ≤ 999999999) : lo + 1 ≤ (lo + hi + 1) / 2 ∧ (lo + hi + 1) / 2 ≤ hi ∧ Int.tdiv (lo + hi + 1) 2 = (lo + hi + 1) / 2 := by
  refine ⟨by omega, by omega, Int.tdiv_eq_ediv_of_nonneg (by omega)⟩
theorem half_end {lo hi L b : Int} (h : ¬ lo < hi) (h1 : lo ≤ hi) (h2 : L < b * (hi + 1)) : L < b * (lo + 1) := by
  obtain rfl : lo = hi := by omega
  exact h2
theorem mod_of_floor {a b : Int} : a - a / b * b = a % b := by rw [Int.emod_def, Int.mul_comm]
end Go.Proofs.YtpdkbhjcpddnpaaGreatDoor
end

section
namespace Go.Proofs.YtpdkbhjcpddnpaaGreatDoor
open Go.RowKit
attribute [local go_sem ↓] Go.wp_at_zero Go.wp_at_succ
attribute [local go_sem] wide_f0 wide_f1

theorem wd_pos_of {n : Nat} (h : 0 < n) : (0 : Int) < (n : Int) := by omega
theorem dl_le_of {x y : Int} (h : x.natAbs ≤ y.natAbs) : dl x ≤ dl y := dlen_mono h
theorem flo_len {b R : Int} (h0 : 0 ≤ R) (h1 : R < b) : dl R ≤ dl b := dl_le_of (by omega)
theorem cmp_le {n m : Nat} (h : n ≤ m) : cmpN n m ≤ 0 := by unfold cmpN; split <;> (try split) <;> omega
theorem cmp_not_le {n m : Nat} (h : m < n) : ¬ cmpN n m ≤ 0 := by rw [cmpN_gt h]; decide
theorem own_ne {w : World} {base n c : Nat} {e : TypeId} {A : Option Addr} {xs : List Value} {g : Nat} (h : w.ownsRow base e 1 (.slice A n c) n xs) (hg : g < base) : ∀ a, A = some a → a.block ≠ g := fun a ha => by
  rcases h.2 with ⟨h1, _⟩ | ⟨k, cap, cur, hv, hk, _⟩
  · injection h1 with h1; rw [h1] at ha; cases ha
  · injection hv with h1
    rw [h1] at ha
    injection ha with ha
    subst ha
    show k ≠ g
    omega
theorem DigAt.off {w : World} {A : Option Addr} {xs : List Int} (h : DigAt w A xs) {g o : Nat} (hn : ∀ a, A = some a → a.block ≠ g) {u : Value} : DigAt (w.setCell ⟨g, o, none⟩ u) A xs := by
  rcases h with h | ⟨b, off, cs, hA, hk, hc⟩
  · exact .inl h
  · exact .inr ⟨b, off, cs, hA, hk.far (hn _ hA), hc⟩
theorem half_wraps {lo hi m : Int} (h0 : 0 ≤ lo) (h1 : lo < hi) (h2 : hi ≤ 999999999) (hm : (lo + hi + 1) / 2 = m) :
    (lo + 1 ≤ m ∧ m ≤ hi ∧ 0 ≤ m ∧ m ≤ 999999999) ∧ (IntKind.i64.wrap (lo + hi) = lo + hi ∧ RowKit.wrap64 (lo + hi) = lo + hi) ∧ (IntKind.i64.wrap (lo + hi + 1) = lo + hi + 1 ∧ RowKit.wrap64 (lo + hi + 1) = lo + hi + 1) ∧
    (IntKind.i64.wrap ((lo + hi + 1).tdiv 2) = m ∧ RowKit.wrap64 ((lo + hi + 1).tdiv 2) = m) ∧ (IntKind.i64.wrap m = m ∧ RowKit.wrap64 m = m) ∧ (IntKind.i64.wrap (m - 1) = m - 1 ∧ RowKit.wrap64 (m - 1) = m - 1) ∧ (lo + hi + 1).tdiv 2 = m := by
  obtain ⟨a1, a2, a3⟩ := half_bd h0 h1 h2
  rw [hm] at a1 a2 a3
  exact ⟨⟨a1, a2, by omega, by omega⟩, wrap_both rfl (by omega), wrap_both rfl (by omega), wrap_both a3 (by omega), wrap_both rfl (by omega), wrap_both rfl (by omega), a3⟩
theorem search_meas {a b c d : Int} (h : d - c < b - a) (h2 : c ≤ d) : (d - c).toNat < (b - a).toNat := by omega
theorem mul_nn {b m : Int} (hb : 0 < b) (hm : 0 ≤ m) : 0 ≤ b * m := Int.mul_nonneg (Int.le_of_lt hb) hm
theorem abs_le {x y : Int} (hx : 0 ≤ x) (h : x ≤ y) : x.natAbs ≤ y.natAbs := by omega
theorem abs_lt {x y : Int} (hx : 0 ≤ x) (h : x < y) : x.natAbs < y.natAbs := by omega
theorem mul_dl {b m : Int} (hm : -9223372036854775808 ≤ m ∧ m ≤ 9223372036854775807) {n : Nat} (hl : dl b + 5 ≤ n) : dl b + dl m + 1 ≤ n ∧ dl (b * m) ≤ n := by
  have h1 := dl_small hm
  have h2 := dl_mul b m
  omega
theorem pos_in {m : Int} (h0 : 0 ≤ m) (h1 : m ≤ 999999999) : -9223372036854775808 ≤ m ∧ m ≤ 9223372036854775807 := by omega
theorem pos_in' {m : Int} (h0 : 0 ≤ m) (h1 : m ≤ 999999999) : -9223372036854775807 ≤ m ∧ m ≤ 9223372036854775807 := by omega

/-- b's digits as a number above 0, times an int: the digits of the product. -/
theorem floor_zero (b : Int) (A A2 : Option Addr) (c c2 : Nat) (w : World) :
    Calls Tryz.prog 108 #[wideV 0 A c, wideV b A2 c2] w (WideRet w (0 / b)) := by
  have HV := Lib.hid (show wideV (0 / b) none 0 = .agg #[.int .i64 0, .slice none 0 0] by rw [Int.zero_ediv]; unfold wideV; rw [dl_zero]; rfl)
  have HAt := Lib.hid (show ∀ W, WideAt W none 0 (0 / b) from fun W => by rw [Int.zero_ediv]; exact WideAt.zero)
  have e0 : signD 0 = 0 := rfl
  unfold wideV
  rw [e0]
  clear e0
  generalize dl 0 = k at *
  generalize signD b = s at *
  generalize dl b = k2 at *
  go_enter Tryz.func108, Tryz.ntmps108
  go_wp2_with ((with_reducible refine store_blk (T := 53) (x := .tmp 4) (y := .tmp 15) (vs := #[.int .i64 0, .slice none 0 0]) (show Blk _ (w.heap.size + 1 + 1) _ #[.int .i64 0, .slice none 0 0] from Blk.newAt (by simp)) ?_ ?_ ?_ ?_ ?_ ?_); (focus rfl); (focus exact wide_size); (focus (simp [Value.oneCell']; done)); (focus rfl); (focus rfl); intro WF RF PF)
  have g0 := RF.cellAt 0 rfl
  have g1 := RF.cellAt 1 rfl
  exact bodyPost_ret (v := .agg #[.int .i64 0, .slice none 0 0]) (by simp [results, Tryz.results108, go_sem, g0, g1]) rfl ⟨none, 0, by rw [HV.out], HAt.out _, pp (pa (pa (pa (pr (w := w))))) PF (Nat.le_add_right _ 2)⟩

/-- The post of the loop over digits: everything that stands. -/
structure FloSt (w : World) (sa sb : Int) (A A2 : Option Addr) (c c2 ka kb : Nat) (zs : List Int) (wr : World) : Prop where
  b1 : Blk wr w.heap.size 53 #[.int .i64 sa, .slice A ka c]
  b2 : Blk wr (w.heap.size + 1) 53 #[.int .i64 sb, .slice A2 kb c2]
  b3 : Blk wr (w.heap.size + 1 + 1) 53 #[.int .i64 0, .slice none 0 0]
  b4 : Blk wr (w.heap.size + 1 + 1 + 1) 3 (darr zs)
  q : Below w.heap.size w wr
section
variable {w : World} {sa sb : Int} {A A2 : Option Addr} {c c2 ka kb : Nat} {zs : List Int} {wr W : World}
theorem FloSt.past (h : FloSt w sa sb A A2 c c2 ka kb zs wr) (hb : Below wr.heap.size wr W) : FloSt w sa sb A A2 c c2 ka kb zs W := ⟨h.b1.past hb, h.b2.past hb, h.b3.past hb, h.b4.past hb, pt h.q hb⟩
theorem FloSt.alloc (h : FloSt w sa sb A A2 c c2 ka kb zs wr) {o : Obj} : FloSt w sa sb A A2 c c2 ka kb zs (wr.alloc o) := ⟨h.b1.alloc, h.b2.alloc, h.b3.alloc, h.b4.alloc, pa h.q⟩
theorem FloSt.set_ (h : FloSt w sa sb A A2 c c2 ka kb zs wr) (j : Nat) (x : Int) : FloSt w sa sb A A2 c c2 ka kb (zs.set j x) (wr.setCell ⟨w.heap.size + 1 + 1 + 1, j, none⟩ (.int .i64 x)) :=
  ⟨h.b1.far (ne_h0 _), h.b2.far (ne_h1 _), h.b3.far (ne_h2 _), by rw [← darr_set]; exact h.b4.set_ j _, ps h.q (Nat.le_add_right _ 3)⟩
theorem FloSt.grown (h : FloSt w sa sb A A2 c c2 ka kb zs wr) {base : Nat} {v : Value} {e : TypeId} {n : Nat} {xs : List Value} (hown : wr.ownsRow base e 1 v n xs) (hbs : w.heap.size + 1 + 1 + 1 < base) (hg : wr.grownBy W v.ownBlock) : FloSt w sa sb A A2 c c2 ka kb zs W := by
  have hne : ∀ g, g < base → some g ≠ v.ownBlock := fun g hlt he => absurd (hown.lt g he.symm).1 (Nat.not_le_of_lt hlt)
  exact ⟨h.b1.grown hg (hne _ (by omega)), h.b2.grown hg (hne _ (by omega)), h.b3.grown hg (hne _ (by omega)), h.b4.grown hg (hne _ hbs), pg h.q hown (by omega) hg⟩
end
theorem left_dig {w : World} {base n c : Nat} {A : Option Addr} {x R : Int} (h : w.ownsRow base 3 1 (.slice A n c) n ((x :: digD R).map (Value.int .i64))) : DigAt w A (x :: digD R) := dig_own h
theorem left_val {x R : Int} (hx : 0 ≤ x ∧ x < wB) (h0 : 0 ≤ R) : valD (x :: digD R) = ((x + wB * R).natAbs : Int) := by
  rw [valD, dig_val, show (R.natAbs : Int) = R by omega]
  have := Int.mul_nonneg (show (0 : Int) ≤ wB by decide) h0
  omega
theorem flo_app {n : Nat} (h : n + 2 ≤ wL) : 1 + n ≤ maxLen ∧ (1 + n) * 8 ≤ 140737488355328 := by
  unfold wL at h
  exact ⟨by simp only [maxLen]; omega, by omega⟩

set_option maxHeartbeats 16000000 in
set_option maxRecDepth 100000 in
theorem wideFloor_nz (a b : Int) (hb0 : 0 < b) (ha0 : a ≠ 0) (A A2 : Option Addr) (c c2 : Nat) (w : World) (ha : WideAt w A c a) (hb : WideAt w A2 c2 b) (hl : dl a + dl b + 6 ≤ wL) :
    Calls Tryz.prog 108 #[wideV a A c, wideV b A2 c2] w (WideRet w (a / b)) := by
  have HX := Lib.hid (show ∀ W, Below w.heap.size w W → ∀ i, i < dl a → ∃ q o, A = some ⟨q, o, none⟩ ∧ W.cell? ⟨q, o + i, none⟩ = some (.int .i64 ((digD a).getD i 0)) ∧ q < W.heap.size from fun W hW i hi => by
    obtain ⟨q, o, e, hq, h⟩ := (ha.past hW).1.ints.at_ hi
    exact ⟨q, o, e, h i hi, hq⟩)
  have HOx := Lib.hid (dig_ok a)
  have HB0 := Lib.hid hb0
  have HLx := Lib.hid (show (digD a).length = dl a from rfl)
  have HVx := Lib.hid (dig_val a)
  have kz := Lib.hid (dl_pos ha0)
  have hwb : dl b + 6 ≤ wL := by omega
  have hwa : dl a ≤ wL := by omega
  have HWa := Lib.hid hwa
  have HWa1 := Lib.hid (show dl a < wL by omega)
  have HWb := Lib.hid hwb
  -- wideOf(1, b.Digits)
  have HWo := Lib.hid (show ∀ W, Below w.heap.size w W → Calls Tryz.prog 104 #[.int .i64 1, .slice A2 (dl b) c2] W fun e w' => e = .returned (wideV b A2 c2) ∧ Below W.heap.size W w' from fun W hW =>
    wideOf_any W.heap.size (digD b) b 1 A2 c2 W (hb.past hW).1.ints (Nat.le_refl _) (dig_ok b) (dig_val b) (fun _ => (signD_pos hb0).symm) (hb.past hW).2.1 (Nat.le_trans (Nat.le_add_right _ 6) hwb) (hb.past hW).2.2)
  -- its product with an int
  have HMl := Lib.hid (show ∀ W m A7 c7, Below w.heap.size w W → WideAt W A7 c7 m → 0 ≤ m → m ≤ 999999999 → Calls Tryz.prog 62 #[.agg #[.int .i64 (signD b), .slice A2 (dl b) c2], wideV m A7 c7] W (WideRet W (b * m)) from fun W m A7 c7 hW h7 h0 h1 =>
    wideMul_any b m A2 A7 c2 c7 W (hb.past hW) h7 (mul_dl (pos_in h0 h1) (Nat.le_trans (by omega) hwb)).1)
  have HOf := Lib.hid (show ∀ W m, 0 ≤ m → m ≤ 999999999 → Calls Tryz.prog 64 #[.int .i64 m] W (WideRet W m) from fun W m h0 h1 => wideOfInt_any m W (pos_in' h0 h1).1 (pos_in' h0 h1).2)
  have HLm := Lib.hid (show ∀ m, 0 ≤ m → m ≤ 999999999 → dl (b * m) ≤ wL from fun m h0 h1 => (mul_dl (pos_in h0 h1) (Nat.le_trans (by omega) hwb)).2)
  have HLr := Lib.hid (show ∀ R, 0 ≤ R → R < b → dl R + 2 ≤ wL from fun R h0 h1 => by have := flo_len h0 h1; omega)
  have HLl := Lib.hid (show ∀ x R, 0 ≤ x ∧ x < wB → 0 ≤ R → R < b → (x :: digD R).length ≤ wL from fun x R _ h0 h1 => by
    have h2 := flo_len h0 h1
    rw [List.length_cons]
    show dl R + 1 ≤ wL
    omega)
  obtain ⟨mk1, mk2⟩ := mk_bd hwa
  have hmk := fun w => run_make_row' (P := Tryz.prog) 51 3 (.int .i64 0) 8 rfl int_info rfl .i64 .i64 (dl a) mk1 mk2 w
  rw [made_darr] at hmk
  have HSt := Lib.hid (show FloD (digD a) (List.replicate (dl a) 0) b (dl a) 0 from FloD.start hb0)
  have HFin := Lib.hid (show ∀ Q R, (a.natAbs : Int) = Q * b + R → 0 ≤ R → R < b → 0 ≤ Q → (0 < a → a / b = Q) ∧ (a < 0 → R = 0 → a / b = -Q) ∧ (a < 0 → R ≠ 0 → a / b = -Q - 1) from fun Q R h h0 h1 h2 => floor_sizes hb0 h h0 h1 h2)
  have HSa := Lib.hid (signD_cases a)
  have sz : (signD a == 0) = false := beq_eq_false_iff_ne.2 (fun e => ha0 (signD_zero.1 e))
  have ka9 := wl_int hwa
  have HA0 := Lib.hid ha0
  obtain ⟨i1, hi1, hy0, hy1, hy2⟩ := info_parts int_info
  clear ha hb hb0 ha0 hl hwa hwb mk1 mk2
  unfold wideV at HWo
  unfold wideV
  generalize hxs : digD a = xs at *
  clear hxs
  generalize dl a = ka at *
  generalize signD a = sa at *
  generalize signD b = sb at *
  generalize hkb : dl b = kb at *
  clear hkb
  have k1 := wd_nn ka
  go_enter Tryz.func108, Tryz.ntmps108
  go_wp2
  clear hmk sz
  go_loopw [6, 7] (fun lv iv wr => ∃ (k : Nat) (R : Int) (zs : List Int) (A4 : Option Addr) (c4 : Nat), lv = .slice A4 (dl R) c4 ∧ iv = .int .i64 ((k : Int) - 1) ∧ k ≤ ka ∧ FloD xs zs b k R ∧ WideAt wr A4 c4 R ∧ FloSt w sa sb A A2 c c2 ka kb zs wr) (fun _ iv _ => (intOf iv + 1).toNat)
  case atStart =>
    refine ⟨ka, 0, List.replicate ka 0, some ⟨w.heap.size + 1 + 1 + 1 + 1, 0, none⟩, 0, by rw [dl_zero], rfl, Nat.le_refl _, HSt.out, ⟨.inl dig_zero, by rw [dl_zero]; exact Nat.le_refl _, .inr ⟨_, _, rfl⟩⟩, ?_⟩
    exact ⟨(Blk.newAt rfl).alloc.alloc.alloc.alloc, (Blk.newAt (by simp)).alloc.alloc.alloc, (Blk.newAt (by simp)).alloc.alloc, (Blk.newAt (by simp)).alloc, pa (pa (pa (pa (pa pr))))⟩
  case round =>
    obtain ⟨k, R, zs, A4, c4, rfl, rfl, hk, hd, hat, hst⟩ := hrel
    have HD := Lib.hid hd
    have HAt := Lib.hid hat
    have HS := Lib.hid hst
    have HK := Lib.hid hk
    have x0 := hst.b1.cellAt 0 rfl
    have x1 := hst.b1.cellAt 1 rfl
    have xl := hst.b1.lt
    clear hd hat hk hst
    rcases k with _ | k
    · as_aux_lemma =>
      have e1 := neg_one_facts
      have hQ := HD.out.fin
      rw [HVx.out] at hQ
      have hR := And.intro HD.out.r0 HD.out.r1
      have hQ0 : 0 ≤ valD zs := val_nonneg HD.out.ok
      obtain ⟨f1, f2, f3⟩ := HFin.out _ _ hQ hR.1 hR.2 hQ0
      have HZn := Lib.hid (show ((valD zs).natAbs : Int) = valD zs by omega)
      have HDz := Lib.hid (dig_darr HS.out.b4)
      have HMx := Lib.hid (show zs.length = ka by rw [HD.out.len]; exact HLx.out)
      have HZo := Lib.hid HD.out.ok
      have HFx := Lib.hid (And.intro f1 (And.intro f2 f3))
      clear f1 f2 f3 hQ hR hQ0
      have HWq := Lib.hid (show ∀ n0 : Int, n0.natAbs = (valD zs).natAbs → (n0 ≠ 0 → sa = signD n0) → Calls Tryz.prog 104 #[.int .i64 sa, .slice (some ⟨w.heap.size + 1 + 1 + 1, 0, none⟩) ka ka] wr (fun e w' => e = .returned (wideV n0 (some ⟨w.heap.size + 1 + 1 + 1, 0, none⟩) ka) ∧ Below wr.heap.size wr w') ∧ WideAt wr (some ⟨w.heap.size + 1 + 1 + 1, 0, none⟩) ka n0 from fun n0 h1 h2 => by
        have hv : valD zs = (n0.natAbs : Int) := by rw [h1]; exact HZn.out.symm
        have q := wideOf_any wr.heap.size zs n0 sa (some ⟨w.heap.size + 1 + 1 + 1, 0, none⟩) ka wr HDz.out.ints (Nat.le_refl _) HZo.out hv h2 (by rw [HMx.out]; exact Nat.le_refl _) (by rw [HMx.out]; exact HWa.out) (.inr ⟨_, _, rfl⟩)
        rw [HMx.out] at q
        exact ⟨q, (wide_at HDz.out HZo.out hv (by rw [HMx.out]; exact Nat.le_refl _) (.inr ⟨_, _, rfl⟩)).1⟩)
      rcases HSa.out with ⟨hs, hneg⟩ | ⟨hs, hz⟩ | ⟨hs, hpos⟩
      · by_cases hR0 : R = 0
        · skip
          obtain ⟨n0, hn0⟩ : ∃ n0, (-valD zs) = n0 := ⟨_, rfl⟩
          have hq := HWq.out n0 (by rw [← hn0, Int.natAbs_neg]) (fun h => by rw [hs]; rcases signD_cases n0 with ⟨h1, _⟩ | ⟨_, h2⟩ | ⟨_, h2⟩; exact h1.symm; exact absurd h2 h; exfalso; have := HZn.out; omega)
          have HRes := Lib.hid (show a / b = n0 by rw [← hn0]; exact HFx.out.2.1 hneg hR0)
          obtain ⟨hq1, hq2⟩ := hq
          have HQ1 := Lib.hid hq1
          have HQ2 := Lib.hid hq2
          clear hq1 hq2 hn0
          subst hs
          have d0 : dl R = 0 := by rw [hR0]; exact dl_zero
          rw [d0]
          clear d0 hR0
          have HWv0 := Lib.hid (show wideV n0 (some ⟨w.heap.size + 1 + 1 + 1, 0, none⟩) ka = .agg #[.int .i64 (signD n0), .slice (some ⟨w.heap.size + 1 + 1 + 1, 0, none⟩) (dl n0) ka] from rfl)
          rw [HWv0.out] at HQ1
          generalize hsn : signD n0 = s0 at *
          generalize hdn : dl n0 = d0 at *
          have HSn := Lib.hid hsn
          have HDn := Lib.hid hdn
          clear hsn hdn
          go_wp2_with (first | (go_at_call 104; (with_reducible refine HQ1.out.mono ?_); rintro e w1 ⟨rfl, hb1⟩; have HS1 := Lib.hid ((HS.out.past hb1).alloc (o := (.cells #[.int .i64 s0, .slice (some ⟨w.heap.size + 1 + 1 + 1, 0, none⟩) d0 ka] 53))); have OB1 := Lib.hid (Blk.new w1 53 #[.int .i64 s0, .slice (some ⟨w.heap.size + 1 + 1 + 1, 0, none⟩) d0 ka]); have ATo := Lib.hid (HQ2.out.past (pt hb1 (pa (o := (.cells #[.int .i64 s0, .slice (some ⟨w.heap.size + 1 + 1 + 1, 0, none⟩) d0 ka] 53)) pr))); have R3 := HS1.out.b3; have x0_ := HS1.out.b1.cellAt 0 rfl; have xl_ := HS1.out.b1.lt; have o0 := OB1.out.cellAt 0 rfl; have o1 := OB1.out.cellAt 1 rfl; have ol := OB1.out.lt; have HB1s := Lib.hid hb1.size; clear hb1) | ((with_reducible refine store_blk (T := 53) (x := .tmp 4) (y := .tmp 87) (vs := #[.int .i64 s0, .slice (some ⟨w.heap.size + 1 + 1 + 1, 0, none⟩) d0 ka]) R3 ?_ ?_ ?_ ?_ ?_ ?_); (focus rfl); (focus exact wide_size); (focus (simp [Value.oneCell']; done)); (focus rfl); (focus rfl); intro WF RF PF))
          have HOb0 := HS1
          have HWv := Lib.hid (show wideV (a / b) (some ⟨w.heap.size + 1 + 1 + 1, 0, none⟩) ka = .agg #[.int .i64 s0, .slice (some ⟨w.heap.size + 1 + 1 + 1, 0, none⟩) d0 ka] by rw [HRes.out, HWv0.out])
          have ATr := ATo.out
          rw [← HRes.out] at ATr
          have g0 := RF.cellAt 0 rfl
          have g1 := RF.cellAt 1 rfl
          exact bodyPost_ret (v := .agg #[.int .i64 s0, .slice (some ⟨w.heap.size + 1 + 1 + 1, 0, none⟩) d0 ka]) (by simp [results, Tryz.results108, go_sem, g0, g1]) rfl ⟨(some ⟨w.heap.size + 1 + 1 + 1, 0, none⟩), ka, by rw [HWv.out], ATr.put R3 (by decide) PF, pp HS1.out.q PF (Nat.le_add_right _ 2)⟩
        · skip
          obtain ⟨n0, hn0⟩ : ∃ n0, (-valD zs) = n0 := ⟨_, rfl⟩
          have hq := HWq.out n0 (by rw [← hn0, Int.natAbs_neg]) (fun h => by rw [hs]; rcases signD_cases n0 with ⟨h1, _⟩ | ⟨_, h2⟩ | ⟨_, h2⟩; exact h1.symm; exact absurd h2 h; exfalso; have := HZn.out; omega)
          have HRes := Lib.hid (show a / b = n0 - 1 by rw [← hn0]; exact HFx.out.2.2 hneg hR0)
          obtain ⟨hq1, hq2⟩ := hq
          have HQ1 := Lib.hid hq1
          have HQ2 := Lib.hid hq2
          have HLn := Lib.hid (show dl n0 < wL from Nat.lt_of_le_of_lt hq2.2.1 HWa1.out)
          clear hq1 hq2 hn0
          subst hs
          have d0 := wd_pos_of (dl_pos hR0)
          have d1 := dl_pos hR0
          clear hR0
          generalize dl R = dr at *
          have HWv0 := Lib.hid (show wideV n0 (some ⟨w.heap.size + 1 + 1 + 1, 0, none⟩) ka = .agg #[.int .i64 (signD n0), .slice (some ⟨w.heap.size + 1 + 1 + 1, 0, none⟩) (dl n0) ka] from rfl)
          rw [HWv0.out] at HQ1
          generalize hsn : signD n0 = s0 at *
          generalize hdn : dl n0 = d0 at *
          have HSn := Lib.hid hsn
          have HDn := Lib.hid hdn
          clear hsn hdn
          go_wp2_with (go_at_call 104; (with_reducible refine HQ1.out.mono ?_); rintro e w1 ⟨rfl, hb1⟩; have HS1 := Lib.hid ((HS.out.past hb1).alloc (o := (.cells #[.int .i64 s0, .slice (some ⟨w.heap.size + 1 + 1 + 1, 0, none⟩) d0 ka] 53))); have OB1 := Lib.hid (Blk.new w1 53 #[.int .i64 s0, .slice (some ⟨w.heap.size + 1 + 1 + 1, 0, none⟩) d0 ka]); have ATo := Lib.hid (HQ2.out.past (pt hb1 (pa (o := (.cells #[.int .i64 s0, .slice (some ⟨w.heap.size + 1 + 1 + 1, 0, none⟩) d0 ka] 53)) pr))); have R3 := HS1.out.b3; have x0_ := HS1.out.b1.cellAt 0 rfl; have xl_ := HS1.out.b1.lt; have o0 := OB1.out.cellAt 0 rfl; have o1 := OB1.out.cellAt 1 rfl; have ol := OB1.out.lt; have HB1s := Lib.hid hb1.size; clear hb1)
          have HOb := Lib.hid (show w.heap.size + 1 + 1 < w1.heap.size from by have := HS.out.b3.lt; have := HB1s.out; omega)
          generalize w1.alloc (.cells #[.int .i64 s0, .slice (some ⟨w.heap.size + 1 + 1 + 1, 0, none⟩) d0 ka] 53) = v at *
          generalize w1.heap.size = ob at *
          clear o0 o1 ol R3 x0_ xl_
          have HSS := Lib.hid (show ∀ W, Below v.heap.size v W → W.cell? ⟨ob, 0, none⟩ = some (.int .i64 s0) ∧ W.cell? ⟨ob, 1, none⟩ = some (.slice (some ⟨w.heap.size + 1 + 1 + 1, 0, none⟩) d0 ka) from fun W hW => ⟨(OB1.out.past hW).cellAt 0 rfl, (OB1.out.past hW).cellAt 1 rfl⟩)
          have HSb := Lib.hid (show ∀ W A7 c7, Below v.heap.size v W → WideAt W A7 c7 1 → Calls Tryz.prog 103 #[.agg #[.int .i64 s0, .slice (some ⟨w.heap.size + 1 + 1 + 1, 0, none⟩) d0 ka], wideV 1 A7 c7] W (WideRet W (n0 - 1)) from fun W A7 c7 hW h7 => by
            have q := wideSub_any n0 1 (some ⟨w.heap.size + 1 + 1 + 1, 0, none⟩) A7 ka c7 W (ATo.out.past hW) h7 (by rw [HDn.out]; exact HLn.out) (Nat.lt_of_le_of_lt (dl_small ⟨by decide, by decide⟩) (by decide))
            rw [HWv0.out] at q
            exact q)
          refine wp_region_G 3 follows_mixed (fun W => W.cell? ⟨ob, 0, none⟩ = some (.int .i64 s0) ∧ W.cell? ⟨ob, 1, none⟩ = some (.slice (some ⟨w.heap.size + 1 + 1 + 1, 0, none⟩) d0 ka)) (HSS.out _ (pd pr)) ?_
          intro hSd inv
          have HSd := Lib.hid hSd
          clear hSd
          refine wpAnyG_take (i := 0) (v := ?_) rfl (by kernel_rfl) (by kernel_rfl) (by kernel_rfl) (by kernel_rfl) (by kernel_rfl) (by decide) (by decide) inv (fun _ _ _ h => h) (Or.inl ⟨by rfl, ?_⟩) HSd.out ?_; rotate_left; (focus (intro W y1; obtain ⟨y1, y2⟩ := y1; go_simp; (first | done | with_reducible rfl))); clear inv; intro inv; simp only [List.getElem_toArray, List.getElem_cons_zero, Act.put, List.setIfInBounds_toArray, List.set_cons_zero, List.set_cons_succ]
          clear inv
          refine wpAnyG_one (i := 1) (by kernel_rfl) rfl rfl fun K hK => ?_
          go_simp
          refine (HOf.out _ 1 (by decide) (by decide)).mono ?_
          rintro e w4 ⟨A7, c7, rfl, h7, hb7⟩
          have HB4 := Lib.hid (show Below v.heap.size v w4 from pt (pd pr) hb7)
          have H7 := Lib.hid h7
          refine hK.out _ _ (fun _ => HSS.out _ HB4.out) ?_
          clear hK K h7 hb7
          refine wpAnyG_one (i := 2) (by kernel_rfl) rfl rfl fun K hK => ?_
          go_simp
          refine (HSb.out w4 A7 c7 HB4.out H7.out).mono ?_
          rintro e w5 ⟨A8, c8, rfl, h8, hb8⟩
          have HB5 := Lib.hid (show Below v.heap.size v w5 from pt HB4.out hb8)
          have H8 := Lib.hid h8
          refine hK.out _ _ (fun _ => HSS.out _ HB5.out) ?_
          clear hK K h8 hb8
          have X5 := OB1.out.past HB5.out
          have f0 := X5.frozen 0; have f1 := X5.frozen 1; have fl := X5.lt; have h0_ := X5.cellAt 0 rfl; have h1_ := X5.cellAt 1 rfl
          unfold wideV
          refine wpAnyG_one (i := 3) (by kernel_rfl) rfl rfl fun K hK => ?_
          go_simp
          refine hK.out _ _ (fun h => absurd h (by decide)) ?_
          clear hK K
          refine wpAnyG_done (by kernel_rfl) ?_
          have hR := (X5.set_ 0 (.int .i64 (signD (n0 - 1)))).set_ 1 (.slice A8 (dl (n0 - 1)) c8)
          have hAf := (H8.out.far (p := ⟨ob, 0, none⟩) X5 (by decide) (u := .int .i64 (signD (n0 - 1)))).far (p := ⟨ob, 1, none⟩) (X5.set_ 0 (.int .i64 (signD (n0 - 1)))) (by decide) (u := .slice A8 (dl (n0 - 1)) c8)
          have hRb := ((HS1.out.past HB5.out).b3.far (p := ⟨ob, 0, none⟩) (Nat.ne_of_lt HOb.out) (u := .int .i64 (signD (n0 - 1)))).far (p := ⟨ob, 1, none⟩) (Nat.ne_of_lt HOb.out) (u := .slice A8 (dl (n0 - 1)) c8)
          have hSf := ps (ps (HS1.out.past HB5.out).q (p := ⟨ob, 0, none⟩) (u := .int .i64 (signD (n0 - 1))) (Nat.le_of_lt (Nat.lt_of_le_of_lt (Nat.le_add_right _ 2) HOb.out))) (p := ⟨ob, 1, none⟩) (u := .slice A8 (dl (n0 - 1)) c8) (Nat.le_of_lt (Nat.lt_of_le_of_lt (Nat.le_add_right _ 2) HOb.out))
          clear f0 f1 fl h0_ h1_ HSS HSd X5 H8
          generalize (w5.setCell ⟨ob, 0, none⟩ (.int .i64 (signD (n0 - 1)))).setCell ⟨ob, 1, none⟩ (.slice A8 (dl (n0 - 1)) c8) = wz at *
          have HWv := Lib.hid (show wideV (a / b) A8 c8 = .agg #[.int .i64 (signD (n0 - 1)), .slice A8 (dl (n0 - 1)) c8] by rw [HRes.out]; rfl)
          rw [← HRes.out] at hAf
          generalize signD (n0 - 1) = s1 at *
          generalize dl (n0 - 1) = d1_ at *
          have o0 := hR.cellAt 0 rfl
          have o1 := hR.cellAt 1 rfl
          have ol := hR.lt
          go_wp2_with ((with_reducible refine store_blk (T := 53) (x := .tmp 4) (y := .tmp 87) (vs := #[.int .i64 s1, .slice A8 d1_ c8]) hRb ?_ ?_ ?_ ?_ ?_ ?_); (focus rfl); (focus exact wide_size); (focus (simp [Value.oneCell']; done)); (focus rfl); (focus rfl); intro WF RF PF)
          have g0 := RF.cellAt 0 rfl
          have g1 := RF.cellAt 1 rfl
          exact bodyPost_ret (v := .agg #[.int .i64 s1, .slice A8 d1_ c8]) (by simp [results, Tryz.results108, go_sem, g0, g1]) rfl ⟨A8, c8, by rw [HWv.out], hAf.put hRb (by decide) PF, pp hSf PF (Nat.le_add_right _ 2)⟩
      · exact absurd hz HA0.out
      · skip
        obtain ⟨n0, hn0⟩ : ∃ n0, valD zs = n0 := ⟨_, rfl⟩
        have hq := HWq.out n0 (by rw [← hn0]) (fun h => by rw [hs]; exact (signD_pos (by have := HZn.out; omega)).symm)
        have HRes := Lib.hid (show a / b = n0 by rw [← hn0]; exact HFx.out.1 hpos)
        obtain ⟨hq1, hq2⟩ := hq
        have HQ1 := Lib.hid hq1
        have HQ2 := Lib.hid hq2
        clear hq1 hq2 hn0
        subst hs
        have HWv0 := Lib.hid (show wideV n0 (some ⟨w.heap.size + 1 + 1 + 1, 0, none⟩) ka = .agg #[.int .i64 (signD n0), .slice (some ⟨w.heap.size + 1 + 1 + 1, 0, none⟩) (dl n0) ka] from rfl)
        rw [HWv0.out] at HQ1
        generalize hsn : signD n0 = s0 at *
        generalize hdn : dl n0 = d0 at *
        have HSn := Lib.hid hsn
        have HDn := Lib.hid hdn
        clear hsn hdn
        go_wp2_with (first | (go_at_call 104; (with_reducible refine HQ1.out.mono ?_); rintro e w1 ⟨rfl, hb1⟩; have HS1 := Lib.hid ((HS.out.past hb1).alloc (o := (.cells #[.int .i64 s0, .slice (some ⟨w.heap.size + 1 + 1 + 1, 0, none⟩) d0 ka] 53))); have OB1 := Lib.hid (Blk.new w1 53 #[.int .i64 s0, .slice (some ⟨w.heap.size + 1 + 1 + 1, 0, none⟩) d0 ka]); have ATo := Lib.hid (HQ2.out.past (pt hb1 (pa (o := (.cells #[.int .i64 s0, .slice (some ⟨w.heap.size + 1 + 1 + 1, 0, none⟩) d0 ka] 53)) pr))); have R3 := HS1.out.b3; have x0_ := HS1.out.b1.cellAt 0 rfl; have xl_ := HS1.out.b1.lt; have o0 := OB1.out.cellAt 0 rfl; have o1 := OB1.out.cellAt 1 rfl; have ol := OB1.out.lt; have HB1s := Lib.hid hb1.size; clear hb1) | ((with_reducible refine store_blk (T := 53) (x := .tmp 4) (y := .tmp 87) (vs := #[.int .i64 s0, .slice (some ⟨w.heap.size + 1 + 1 + 1, 0, none⟩) d0 ka]) R3 ?_ ?_ ?_ ?_ ?_ ?_); (focus rfl); (focus exact wide_size); (focus (simp [Value.oneCell']; done)); (focus rfl); (focus rfl); intro WF RF PF))
        have HOb0 := HS1
        have HWv := Lib.hid (show wideV (a / b) (some ⟨w.heap.size + 1 + 1 + 1, 0, none⟩) ka = .agg #[.int .i64 s0, .slice (some ⟨w.heap.size + 1 + 1 + 1, 0, none⟩) d0 ka] by rw [HRes.out, HWv0.out])
        have ATr := ATo.out
        rw [← HRes.out] at ATr
        have g0 := RF.cellAt 0 rfl
        have g1 := RF.cellAt 1 rfl
        exact bodyPost_ret (v := .agg #[.int .i64 s0, .slice (some ⟨w.heap.size + 1 + 1 + 1, 0, none⟩) d0 ka]) (by simp [results, Tryz.results108, go_sem, g0, g1]) rfl ⟨(some ⟨w.heap.size + 1 + 1 + 1, 0, none⟩), ka, by rw [HWv.out], ATr.put R3 (by decide) PF, pp HS1.out.q PF (Nat.le_add_right _ 2)⟩
    · as_aux_lemma =>
      have hki : k < ka := HK.out
      obtain ⟨q, o, rfl, hx, hqx⟩ := HX.out _ HS.out.q k hki
      have e0 := idx_down k
      rw [e0]
      clear e0
      have k0 := wd_nn k
      have k2 := wd_lt hki
      have hxb := okD_at HOx.out k
      obtain ⟨L, hL⟩ : ∃ L, leftD xs k R = L := ⟨_, rfl⟩
      have hLb := left_bd HOx.out k HD.out.r0 HD.out.r1
      have HStep := Lib.hid (fun d (h0 : 0 ≤ d ∧ d ≤ 999999999) h1 h2 => HD.out.step (d := d) (by rw [HLx.out]; exact hki) h0 h1 h2)
      rw [hL] at hLb
      rw [hL] at HStep
      have HLb := Lib.hid hLb
      have HLL := Lib.hid (show dl L ≤ wL by
        have hv : valD (xs.getD k 0 :: digD R) = (L.natAbs : Int) := by rw [← hL]; exact left_val hxb HD.out.r0
        have h2 := trim_len (okD_cons.2 ⟨hxb, dig_ok R⟩ : okD (xs.getD k 0 :: digD R))
        rw [dig_of hv] at h2
        have h3 : dl L ≤ (xs.getD k 0 :: digD R).length := by show (digD L).length ≤ _; rw [h2]; exact trimN_le _ _
        exact Nat.le_trans h3 (HLl.out _ _ hxb HD.out.r0 HD.out.r1))
      have HTr := Lib.hid (show ∀ W A6 c6, 1 + dl R ≤ c6 → W.ownsRow wr.heap.size 3 1 (.slice A6 (1 + dl R) c6) (1 + dl R) ([.int .i64 (xs.getD k 0)] ++ (digD R).map (Value.int .i64)) →
        Calls Tryz.prog 134 #[.slice A6 (1 + dl R) c6] W (fun e w' => e = .returned (.slice A6 (dl L) c6) ∧ Below W.heap.size W w') ∧ WideAt W A6 c6 L from fun W A6 c6 hc6 hown => by
        have hln : (xs.getD k 0 :: digD R).length = 1 + dl R := by rw [List.length_cons, Nat.add_comm]; rfl
        have h := left_dig (x := xs.getD k 0) (R := R) hown
        have hv : valD (xs.getD k 0 :: digD R) = (L.natAbs : Int) := by rw [← hL]; exact left_val hxb HD.out.r0
        have hok : okD (xs.getD k 0 :: digD R) := okD_cons.2 ⟨hxb, dig_ok R⟩
        have hw := wide_at h hok hv (by rw [hln]; exact hc6) (own_sl hown)
        have ht := trimmed_any W.heap.size (xs.getD k 0 :: digD R) A6 c6 W h.ints (Nat.le_refl _) (by rw [hln]; exact hc6) (HLl.out _ _ hxb HD.out.r0 HD.out.r1) (own_sl hown)
        rw [hw.2, hln] at ht
        exact ⟨ht, hw.1⟩)
      have HCR := Lib.hid (HAt.out.1.ints.cells)
      have HApp := Lib.hid (flo_app (HLr.out R HD.out.r0 HD.out.r1))
      have HLen := Lib.hid (show ((digD R).map (Value.int .i64)).length = dl R * 1 by rw [List.length_map, Nat.mul_one]; rfl)
      have HOne := Lib.hid (show ∀ u ∈ (digD R).map (Value.int .i64), u.oneCell' = true by simp [Value.oneCell'])
      have hb4l := HS.out.b4.lt
      generalize xs.getD k 0 = x at *
      have HOw := Lib.hid (show (wr.alloc (.cells #[.int .i64 x] 3)).ownsRow wr.heap.size 3 1 (.slice (some ⟨wr.heap.size, 0, none⟩) 1 1) 1 [.int .i64 x] from World.ownsRow_lit wr #[.int .i64 x] 1 (Nat.le_refl _) (by decide) rfl)
      have HCl := Lib.hid (show CellsIn wr.heap.size (wr.alloc (.cells #[.int .i64 x] 3)) A4 ((digD R).map (Value.int .i64)) from HCR.out.below (pa pr))
      have HB4l := Lib.hid hb4l
      have HHx := Lib.hid hxb
      clear hL hLb hxb hb4l HD HAt HCR HLl HLr HFin HVx HSa HA0 kz
      go_wp2_with (first
        | (at_builtin; go_must (refine wpList_append_cells _ rfl (.tmp 34) (.tmp 35) _ rfl wr.heap.size 3 i1 _ 1 8 Tryz.underlying51 hi1 hy0 hy1 hy2 rfl Nat.one_pos _ 1 _ rfl HOw.out wr.heap.size A4 (dl R) c4 _ rfl HCl.out HLen.out HOne.out HApp.out.1 HApp.out.2 (by simp) ?_); intro v6 w6 hown6 hg6 hat6; obtain ⟨A6, c6, rfl, hc6, hm6⟩ := own_form hown6; have HS6 := Lib.hid (HS.out.alloc.grown HOw.out HB4l.out hg6); have HT6 := Lib.hid (HTr.out w6 A6 c6 hc6 hown6); have HNe := Lib.hid (own_ne hown6 HB4l.out); clear hown6 hg6 hat6 hc6 hm6)
        | (go_at_call 134; (with_reducible refine HT6.out.1.mono ?_); rintro e w7 ⟨rfl, hb7⟩; have HS7 := Lib.hid (HS6.out.past hb7); have HA7 := Lib.hid (HT6.out.2.past hb7); clear hb7))
      clear x0 x1 xl hx hqx HOw HCl HS HS6 HT6 HTr HOne HLen HApp
      obtain ⟨wo, rfl⟩ : ∃ wo, wo = w7 := ⟨_, rfl⟩
      go_loopw [8, 9] (fun lov hiv wr => ∃ lo hi : Int, lov = .int .i64 lo ∧ hiv = .int .i64 hi ∧ 0 ≤ lo ∧ lo ≤ hi ∧ hi ≤ 999999999 ∧ b * lo ≤ L ∧ L < b * (hi + 1) ∧ WideAt wr A6 c6 L ∧ FloSt w sa sb (some ⟨q, o, none⟩) A2 c c2 ka kb zs wr) (fun lov hiv _ => (intOf hiv - intOf lov).toNat)
      case atStart => exact ⟨0, 999999999, rfl, rfl, Int.le_refl _, by decide, Int.le_refl _, by rw [Int.mul_zero]; exact HLb.out.1, HLb.out.2, HA7.out, HS7.out⟩
      case round =>
        as_aux_lemma =>
        clear HA7 HS7 wo
        obtain ⟨lo, hi, rfl, rfl, l0, l1, l2, hl1, hl2, hat, hst⟩ := hrel
        have HL1 := Lib.hid hl1
        have HL2 := Lib.hid hl2
        have HA7 := Lib.hid hat
        have HS7 := Lib.hid hst
        have HLo := Lib.hid (And.intro l0 (And.intro l1 l2))
        have y1 := hst.b2.cellAt 1 rfl
        have yl := hst.b2.lt
        clear hl1 hl2 hat hst
        by_cases hlt : lo < hi
        · obtain ⟨m, hm⟩ : ∃ m, (lo + hi + 1) / 2 = m := ⟨_, rfl⟩
          obtain ⟨⟨m1, m2, m3, m4⟩, ⟨e1, e1'⟩, ⟨e2, e2'⟩, ⟨e3, e3'⟩, ⟨e4, e4'⟩, ⟨e5, e5'⟩, e6⟩ := half_wraps l0 hlt l2 hm
          have M0 := Lib.hid (And.intro m3 m4)
          have M1 := Lib.hid (And.intro m1 m2)
          have HLh := Lib.hid (And.intro l0 (And.intro l1 (And.intro l2 hlt)))
          have HCm := Lib.hid (show ∀ W A8 c8, WideAt W A8 c8 (b * m) → WideAt W A6 c6 L → Calls Tryz.prog 131 #[.slice A8 (dl (b * m)) c8, .slice A6 (dl L) c6] W fun e w' => e = .returned (.int .i64 (cmpN (b * m).natAbs L.natAbs)) ∧ Below W.heap.size W w' from fun W A8 c8 h8 h6 =>
          cmpDigits_any W.heap.size (b * m).natAbs L.natAbs A8 A6 c8 c6 W h8.1.ints h6.1.ints (Nat.le_refl _) (HLm.out m m3 m4))
          clear hm m1 m2 m3 m4 l0 l1 l2 hlt HLo
          have hlt := HLh.out.2.2.2
          by_cases hbm : b * m ≤ L
          · have hc := cmp_le (abs_le (mul_nn HB0.out M0.out.1) hbm)
            have HBm := Lib.hid hbm
            clear hbm
            generalize cmpN (b * m).natAbs L.natAbs = cv at *
            go_wp2_with (first
            | (go_at_call 104; (with_reducible refine (HWo.out _ HS7.out.q).mono ?_); rintro e w8 ⟨rfl, hb8⟩; have HS8 := Lib.hid (HS7.out.past hb8); have HA8 := Lib.hid (HA7.out.past hb8); clear hb8)
            | (go_at_call 64; (with_reducible refine (HOf.out _ m M0.out.1 M0.out.2).mono ?_); rintro e w9 ⟨A9, c9, rfl, h9, hb9⟩; have HS9 := Lib.hid (HS8.out.past hb9); have HA9 := Lib.hid (HA8.out.past hb9); have HM9 := Lib.hid h9; clear hb9 h9)
            | (go_at_call 62; (with_reducible refine (HMl.out _ m A9 c9 HS9.out.q HM9.out M0.out.1 M0.out.2).mono ?_); rintro e wa ⟨Aa, ca, rfl, ha, hba⟩; have HSa_ := Lib.hid (HS9.out.past hba); have HAa := Lib.hid (HA9.out.past hba); have HMa := Lib.hid ha; clear hba ha; unfold wideV)
            | (go_at_call 131; (with_reducible refine (HCm.out _ Aa ca HMa.out HAa.out).mono ?_); rintro e wb ⟨rfl, hbb⟩; have HSb_ := Lib.hid (HSa_.out.past hbb); have HAb := Lib.hid (HAa.out.past hbb); clear hbb))
            go_roundw
            case rel => exact ⟨m, hi, rfl, rfl, M0.out.1, M1.out.2, HLh.out.2.2.1, HBm.out, HL2.out, HAb.out, HSb_.out⟩
            case measure => (show (hi - m).toNat < (hi - lo).toNat); exact search_meas (by have := M1.out.1; omega) M1.out.2
          · have hc := cmp_not_le (abs_lt HLb.out.1 (Int.not_le.1 hbm))
            have HBm := Lib.hid (Int.not_le.1 hbm)
            clear hbm
            generalize cmpN (b * m).natAbs L.natAbs = cv at *
            go_wp2_with (first
            | (go_at_call 104; (with_reducible refine (HWo.out _ HS7.out.q).mono ?_); rintro e w8 ⟨rfl, hb8⟩; have HS8 := Lib.hid (HS7.out.past hb8); have HA8 := Lib.hid (HA7.out.past hb8); clear hb8)
            | (go_at_call 64; (with_reducible refine (HOf.out _ m M0.out.1 M0.out.2).mono ?_); rintro e w9 ⟨A9, c9, rfl, h9, hb9⟩; have HS9 := Lib.hid (HS8.out.past hb9); have HA9 := Lib.hid (HA8.out.past hb9); have HM9 := Lib.hid h9; clear hb9 h9)
            | (go_at_call 62; (with_reducible refine (HMl.out _ m A9 c9 HS9.out.q HM9.out M0.out.1 M0.out.2).mono ?_); rintro e wa ⟨Aa, ca, rfl, ha, hba⟩; have HSa_ := Lib.hid (HS9.out.past hba); have HAa := Lib.hid (HA9.out.past hba); have HMa := Lib.hid ha; clear hba ha; unfold wideV)
            | (go_at_call 131; (with_reducible refine (HCm.out _ Aa ca HMa.out HAa.out).mono ?_); rintro e wb ⟨rfl, hbb⟩; have HSb_ := Lib.hid (HSa_.out.past hbb); have HAb := Lib.hid (HAa.out.past hbb); clear hbb))
            go_roundw
            case rel => exact ⟨lo, m - 1, rfl, rfl, HLh.out.1, by have := M1.out.1; omega, by have := M0.out.2; omega, HL1.out, by rw [Int.sub_add_cancel]; exact HBm.out, HAb.out, HSb_.out⟩
            case measure => (show (m - 1 - lo).toNat < (hi - lo).toNat); exact search_meas (by have := M1.out.2; omega) (by have := M1.out.1; omega)
        · have HL3 := Lib.hid (half_end hlt l1 HL2.out)
          have M0 := Lib.hid (show 0 ≤ lo ∧ lo ≤ 999999999 from ⟨l0, Int.le_trans l1 l2⟩)
          have HSt2 := Lib.hid (HStep.out lo M0.out HL1.out HL3.out)
          have hzl : zs.length = ka := by have h := HSt2.out.len; rw [List.length_set] at h; exact h.trans HLx.out
          have HSu := Lib.hid (show ∀ W A8 c8, WideAt W A8 c8 (b * lo) → WideAt W A6 c6 L → Calls Tryz.prog 132 #[.slice A6 (dl L) c6, .slice A8 (dl (b * lo)) c8] W (fun e w' => ∃ A9 c9, e = .returned (.slice A9 (dl (L - b * lo)) c9) ∧ WideAt w' A9 c9 (L - b * lo) ∧ Below W.heap.size W w') from fun W A8 c8 h8 h6 => by
          have hn := mul_nn HB0.out M0.out.1
          have hle : valD (digD (b * lo)) ≤ valD (digD L) := by rw [dig_val, dig_val]; have := HL1.out; omega
          have hq := subDigits_any W.heap.size (digD L) (digD (b * lo)) A6 A8 c6 c8 W h6.1.ints h8.1.ints (Nat.le_refl _) (dig_ok _) (dig_ok _) (HLL.out) hle (canD_le (abs_le hn HL1.out))
          have hres : canD (valD (digD L) - valD (digD (b * lo))).toNat = digD (L - b * lo) := dig_of (by rw [dig_val, dig_val]; have := HL1.out; omega)
          refine hq.mono ?_
          rintro e w9 ⟨A9, c9, zs9, rfl, rfl, h1, h2, h3, h4⟩
          rw [hres] at h1 h2 ⊢
          exact ⟨A9, c9, rfl, ⟨h1, h2, h3⟩, h4⟩)
          clear l0 l1 l2 HLo
          have z0 := HS7.out.b4.cellAt k (darr_at (by rw [hzl]; exact hki))
          have z1 := HS7.out.b4.frozen k
          have z2 := HS7.out.b4.lt
          have HSs := Lib.hid (HS7.out.set_ k lo)
          have HA7 := Lib.hid (show WideAt (wr.setCell ⟨w.heap.size + 1 + 1 + 1, k, none⟩ (.int .i64 lo)) A6 c6 L from ⟨HA7.out.1.off HNe.out, HA7.out.2⟩)
          clear hzl HS7
          have y1 := HSs.out.b2.cellAt 1 rfl
          have yl := HSs.out.b2.lt
          go_wp2_with (first
          | (go_at_call 104; (with_reducible refine (HWo.out _ HSs.out.q).mono ?_); rintro e w8 ⟨rfl, hb8⟩; have HS8 := Lib.hid (HSs.out.past hb8); have HA8 := Lib.hid (HA7.out.past hb8); clear hb8)
          | (go_at_call 64; (with_reducible refine (HOf.out _ lo M0.out.1 M0.out.2).mono ?_); rintro e w9 ⟨A9, c9, rfl, h9, hb9⟩; have HS9 := Lib.hid (HS8.out.past hb9); have HA9 := Lib.hid (HA8.out.past hb9); have HM9 := Lib.hid h9; clear hb9 h9)
          | (go_at_call 62; (with_reducible refine (HMl.out _ lo A9 c9 HS9.out.q HM9.out M0.out.1 M0.out.2).mono ?_); rintro e wa ⟨Aa, ca, rfl, ha, hba⟩; have HSa_ := Lib.hid (HS9.out.past hba); have HAa := Lib.hid (HA9.out.past hba); have HMa := Lib.hid ha; clear hba ha; unfold wideV)
          | (go_at_call 132; (with_reducible refine (HSu.out _ Aa ca HMa.out HAa.out).mono ?_); rintro e wb ⟨Ab, cb, rfl, hAb, hbb⟩; have HSb_ := Lib.hid (HSa_.out.past hbb); have HAb := Lib.hid hAb; clear hbb hAb))
          go_roundw
          case rel => exact ⟨k, L - b * lo, zs.set k lo, Ab, cb, rfl, rfl, Nat.le_of_lt hki, HSt2.out, HAb.out, HSb_.out⟩
          case measure => exact meas_down k

theorem wideFloor_any (a b : Int) (hb0 : 0 < b) (A A2 : Option Addr) (c c2 : Nat) (w : World) (ha : WideAt w A c a) (hb : WideAt w A2 c2 b) (hl : dl a + dl b + 6 ≤ wL) :
    Calls Tryz.prog 108 #[wideV a A c, wideV b A2 c2] w (WideRet w (a / b)) := by
  by_cases h : a = 0
  · subst h
    exact floor_zero b A A2 c c2 w
  · exact wideFloor_nz a b hb0 h A A2 c c2 w ha hb hl

end Go.Proofs.YtpdkbhjcpddnpaaGreatDoor
end
