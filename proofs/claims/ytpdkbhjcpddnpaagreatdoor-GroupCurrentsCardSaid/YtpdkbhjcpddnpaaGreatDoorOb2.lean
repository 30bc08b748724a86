/- Contract: products of wide numbers. -/
import Derived.Test.YtpdkbhjcpddnpaaGreatDoorOb1
import Derived.Deep.OwnRows

section
namespace Go.Proofs.YtpdkbhjcpddnpaaGreatDoor
open Go.RowKit
attribute [local go_sem ↓] Go.wp_at_zero Go.wp_at_succ

/-- Numbers as cells. -/
def darr (xs : List Int) : Array Value := (xs.map (Value.int .i64)).toArray
theorem darr_at {xs : List Int} {j : Nat} (h : j < xs.length) : (darr xs)[j]? = some (.int .i64 (xs.getD j 0)) := by simp [darr, List.getD, h]
theorem darr_set (xs : List Int) (j : Nat) (x : Int) : (darr xs).setIfInBounds j (.int .i64 x) = darr (xs.set j x) := by
  unfold darr
  rw [List.setIfInBounds_toArray, List.map_set]
theorem made_darr (n : Nat) : madeCells #[.int .i64 0] n = darr (List.replicate n 0) := by
  have h := toList_madeCells_one (.int .i64 0) n
  have e : madeCells #[.int .i64 0] n = (madeCells #[.int .i64 0] n).toList.toArray := by simp
  rw [e, h]
  simp [darr]
theorem dig_darr {w : World} {g : Nat} {xs : List Int} (h : Blk w g 3 (darr xs)) : DigAt w (some ⟨g, 0, none⟩) xs := .inr ⟨g, 0, darr xs, rfl, h, fun j hj => by rw [Nat.zero_add]; exact darr_at hj⟩
theorem wrap_both {x y : Int} (e : x = y) (h : -9223372036854775808 ≤ y ∧ y ≤ 9223372036854775807) : IntKind.i64.wrap x = y ∧ RowKit.wrap64 x = y := by
  subst e
  exact ⟨IntWalk.i64_in _ h, (IntWalk.i64_left _).symm.trans (IntWalk.i64_in _ h)⟩
theorem wl_in {n : Nat} (h : n ≤ wL) : -9223372036854775808 ≤ (n : Int) ∧ (n : Int) ≤ 9223372036854775807 := by unfold wL at h; omega
theorem cast_add' (i k : Nat) : (i : Int) + (k : Int) = ((i + k : Nat) : Int) := by push_cast; rfl
theorem cast_one' (i : Nat) : (i : Int) + 1 = ((i + 1 : Nat) : Int) := by push_cast; rfl
theorem mul_sums {o x y c s : Int} (ho : 0 ≤ o ∧ o < wB) (hx : 0 ≤ x ∧ x < wB) (hy : 0 ≤ y ∧ y < wB) (hc : 0 ≤ c ∧ c < wB) (hs : o + x * y + c = s) :
    (0 ≤ x * y ∧ x * y ≤ 999999998000000001) ∧ (0 ≤ o + x * y ∧ o + x * y ≤ 1000000000000000000) ∧ (0 ≤ s ∧ s ≤ 1000000001000000000) ∧ 0 ≤ s / wB ∧ s / wB < wB := by
  obtain ⟨h1, h2, h3, h4⟩ := prod_bd ho hx hy hc
  rw [hs] at h3 h4
  unfold wB at ho hc
  refine ⟨⟨h1, h2⟩, ⟨by omega, by omega⟩, ⟨by omega, by omega⟩, h3, h4⟩
theorem in64 {x : Int} (h : 0 ≤ x) (h1 : x ≤ 1000000001000000000) : -9223372036854775808 ≤ x ∧ x ≤ 9223372036854775807 := by omega
theorem mul_wraps {o x y c s p r : Int} (ho : 0 ≤ o ∧ o < wB) (hx : 0 ≤ x ∧ x < wB) (hy : 0 ≤ y ∧ y < wB) (hc : 0 ≤ c ∧ c < wB) (hp : x * y = p) (hr : o + p = r) (hs : r + c = s) :
    (IntKind.i64.wrap (x * y) = p ∧ RowKit.wrap64 (x * y) = p) ∧ (IntKind.i64.wrap (o + p) = r ∧ RowKit.wrap64 (o + p) = r) ∧ (IntKind.i64.wrap (r + c) = s ∧ RowKit.wrap64 (r + c) = s) ∧ 0 ≤ s ∧ 0 ≤ s / wB ∧ s / wB < wB := by
  obtain ⟨h1, h2, h3, h4, h5⟩ := mul_sums ho hx hy hc (show o + x * y + c = s by rw [hp, hr]; exact hs)
  rw [hp] at h1 h2
  rw [hr] at h2
  exact ⟨wrap_both hp (in64 h1.1 (Int.le_trans h1.2 (by decide))), wrap_both hr (in64 h2.1 (Int.le_trans h2.2 (by decide))), wrap_both hs (in64 h3.1 h3.2), h3.1, h4, h5⟩
theorem dig_wraps {x y : Int} (e : x = y) (h : 0 ≤ y ∧ y < wB) : IntKind.i64.wrap x = y ∧ RowKit.wrap64 x = y := wrap_both e (by unfold wB at h; omega)
theorem ne_h0 (n : Nat) : n ≠ n + 1 + 1 + 1 := by omega
theorem ne_h1 (n : Nat) : n + 1 ≠ n + 1 + 1 + 1 := by omega
theorem ne_h2 (n : Nat) : n + 1 + 1 ≠ n + 1 + 1 + 1 := by omega
theorem jn_lt {i k ka kb n j : Nat} (hi : i < ka) (hk : k ≤ kb) (hm : ka + kb < n) (hj : i + k = j) : j < n := by omega
theorem jn_ne {i k kb j : Nat} (hk : k < kb) (hj : i + k = j) : j ≠ i + kb := by omega
theorem idx_wraps {i k j n : Nat} (hj : i + k = j) (hn : n ≤ wL) (h : j < n) : IntKind.i64.wrap ((i : Int) + (k : Int)) = (j : Int) ∧ RowKit.wrap64 ((i : Int) + (k : Int)) = (j : Int) := by
  subst hj
  exact wrap_both (cast_add' i k) (wl_in (Nat.le_trans (Nat.le_of_lt h) hn))
theorem succ_wraps {k m : Nat} (hk : k < m) (hm : m ≤ wL) : IntKind.i64.wrap ((k : Int) + 1) = ((k + 1 : Nat) : Int) ∧ RowKit.wrap64 ((k : Int) + 1) = ((k + 1 : Nat) : Int) := wrap_both (cast_one' k) (wl_in (Nat.le_trans hk hm))
theorem mk_bd {n : Nat} (h : n ≤ wL) : 8 * n ≤ 281474976710656 ∧ n ≤ 9223372036854775807 := by unfold wL at h; omega
theorem sg_in {s t : Int} (h1 : -1 ≤ s ∧ s ≤ 1) (h2 : -1 ≤ t ∧ t ≤ 1) : -9223372036854775808 ≤ s * t ∧ s * t ≤ 9223372036854775807 := by
  have h : s = -1 ∨ s = 0 ∨ s = 1 := by omega
  rcases h with rfl | rfl | rfl <;> omega
theorem kk_le {a b n : Nat} (h : a + b + 1 = n) (hn : n ≤ wL) : a ≤ wL ∧ b ≤ wL ∧ a + b ≤ wL ∧ a + b < n := by omega
theorem mul_meas {m j : Nat} (h : j < m) : m - ((j : Int) + 1).toNat < m - (j : Int).toNat := by omega

set_option maxHeartbeats 16000000 in
set_option maxRecDepth 100000 in
theorem wideMul_any (a b : Int) (A A2 : Option Addr) (c c2 : Nat) (w : World) (ha : WideAt w A c a) (hb : WideAt w A2 c2 b) (hl : dl a + dl b + 1 ≤ wL) :
    Calls Tryz.prog 62 #[wideV a A c, wideV b A2 c2] w (WideRet w (a * b)) := by
  have HX := Lib.hid (show ∀ W, Below w.heap.size w W → ∀ i, i < dl a → ∃ q o, A = some ⟨q, o, none⟩ ∧ W.cell? ⟨q, o + i, none⟩ = some (.int .i64 ((digD a).getD i 0)) ∧ q < W.heap.size from fun W hW i hi => by
    obtain ⟨q, o, e, hq, h⟩ := (ha.past hW).1.ints.at_ hi
    exact ⟨q, o, e, h i hi, hq⟩)
  have HY := Lib.hid (show ∀ W, Below w.heap.size w W → ∀ i, i < dl b → ∃ q o, A2 = some ⟨q, o, none⟩ ∧ W.cell? ⟨q, o + i, none⟩ = some (.int .i64 ((digD b).getD i 0)) ∧ q < W.heap.size from fun W hW i hi => by
    obtain ⟨q, o, e, hq, h⟩ := (hb.past hW).1.ints.at_ hi
    exact ⟨q, o, e, h i hi, hq⟩)
  have HOx := Lib.hid (dig_ok a)
  have HOy := Lib.hid (dig_ok b)
  have HLx := Lib.hid (show (digD a).length = dl a from rfl)
  have HLy := Lib.hid (show (digD b).length = dl b from rfl)
  have HV := Lib.hid (show valD (digD a) * valD (digD b) = ((a * b).natAbs : Int) by rw [dig_val, dig_val, Int.natAbs_mul]; push_cast; rfl)
  have HSg := Lib.hid (show signD a * signD b = signD (a * b) from (signD_mul a b).symm)
  obtain ⟨m, hm⟩ : ∃ m, dl a + dl b = m := ⟨_, rfl⟩
  obtain ⟨n, hn⟩ : ∃ n, m + 1 = n := ⟨_, rfl⟩
  have hl2 : n ≤ wL := by rw [← hn, ← hm]; exact hl
  obtain ⟨ka9, kb9, km9, kn9⟩ := kk_le (show dl a + dl b + 1 = n by rw [hm]; exact hn) hl2
  obtain ⟨mk1, mk2⟩ := mk_bd hl2
  have hmk := fun w => run_make_row' (P := Tryz.prog) 51 3 (.int .i64 0) 8 rfl int_info rfl .i64 .i64 n mk1 mk2 w
  rw [made_darr] at hmk
  obtain ⟨sg1, sg1'⟩ := wrap_both (rfl : signD a * signD b = signD a * signD b) (sg_in (sign_bd a) (sign_bd b))
  obtain ⟨e1, e1'⟩ := wrap_both (show (dl a : Int) + (dl b : Int) = (m : Int) by rw [← hm]; exact cast_add' _ _) (wl_in (hm ▸ km9))
  obtain ⟨e2, e2'⟩ := wrap_both (show (m : Int) + 1 = (n : Int) by rw [← hn]; exact cast_one' _) (wl_in hl2)
  have HM := Lib.hid kn9
  have HNw := Lib.hid hl2
  have HKa := Lib.hid ka9
  have HKb := Lib.hid kb9
  clear mk1 mk2 ka9 kb9 km9 kn9 hl2
  clear ha hb hl
  unfold wideV
  generalize digD a = xs at *
  generalize digD b = ys at *
  generalize hka : dl a = ka at *
  generalize hkb : dl b = kb at *
  generalize hsa : signD a = sa at *
  generalize hsb : signD b = sb at *
  clear hka hkb hsa hsb
  have HE := Lib.hid (And.intro hm hn)
  clear hm hn
  go_enter Tryz.func62, Tryz.ntmps62
  go_wp2
  clear e1 e1' e2 e2' hmk
  go_loopw [6] (fun iv wr => ∃ (i : Nat) (zs : List Int), iv = .int .i64 (i : Int) ∧ i ≤ ka ∧ zs.length = n ∧ okD zs ∧ valD zs = valD (xs.take i) * valD ys ∧ Blk wr w.heap.size 53 #[.int .i64 sa, .slice A ka c] ∧ Blk wr (w.heap.size + 1) 53 #[.int .i64 sb, .slice A2 kb c2] ∧ Blk wr (w.heap.size + 1 + 1) 53 #[.int .i64 0, .slice none 0 0] ∧ Blk wr (w.heap.size + 1 + 1 + 1) 3 (darr zs) ∧ Below w.heap.size w wr) (fun iv _ => ka - (intOf iv).toNat)
  case atStart => exact ⟨0, List.replicate n 0, rfl, Nat.zero_le _, List.length_replicate, okD_replicate n, by rw [val_replicate, List.take_zero]; exact (Int.zero_mul _).symm, (Blk.newAt rfl).alloc.alloc.alloc, (Blk.newAt (by simp)).alloc.alloc, (Blk.newAt (by simp)).alloc, Blk.newAt (by simp), pa (pa (pa (pa pr)))⟩
  case round =>
    as_aux_lemma =>
    obtain ⟨i, zs, rfl, hi, hzl, hzo, hzv, hb1, hb2, hb3, hb4, hq⟩ := hrel
    have HZl := Lib.hid hzl
    have HZo := Lib.hid hzo
    have HZv := Lib.hid hzv
    have HB1 := Lib.hid hb1
    have HB2 := Lib.hid hb2
    have HB3 := Lib.hid hb3
    have HB4 := Lib.hid hb4
    have HQ := Lib.hid hq
    have i0 := wd_nn i
    have x0 := hb1.cellAt 0 rfl
    have x1 := hb1.cellAt 1 rfl
    have xl := hb1.lt
    have y0 := hb2.cellAt 0 rfl
    have y1 := hb2.cellAt 1 rfl
    have yl := hb2.lt
    clear hzl hzo hzv hb1 hb2 hb3 hb4 hq
    by_cases hlt : i < ka
    · have i1 := wd_lt hlt
      have HI := Lib.hid hlt
      have HZz := Lib.hid (show zs.getD (i + kb) 0 = 0 from okD_small HZo.out (i := i + ys.length) (by rw [HZv.out]; exact mul_lt HOx.out HOy.out) (by rw [HLy.out]; exact Nat.le_refl _))
      have HSt := Lib.hid (show valD zs + wB ^ (i + 0) * 0 = valD (xs.take i) * valD ys + wB ^ i * (xs.getD i 0 * valD (ys.take 0)) by rw [HZv.out, List.take_zero, valD, Int.mul_zero, Int.mul_zero, Int.mul_zero])
      go_wp2
      obtain ⟨wo, rfl⟩ : ∃ wo, wo = wr := ⟨_, rfl⟩
      clear x0 x1 xl y0 y1 yl hlt
      go_loopw [7, 8] (fun cv kv wr => ∃ (k : Nat) (cy : Int) (zs : List Int), cv = .int .i64 cy ∧ kv = .int .i64 (k : Int) ∧ k ≤ kb ∧ (0 ≤ cy ∧ cy < wB) ∧ zs.length = n ∧ okD zs ∧ zs.getD (i + kb) 0 = 0 ∧ valD zs + wB ^ (i + k) * cy = valD (xs.take i) * valD ys + wB ^ i * (xs.getD i 0 * valD (ys.take k)) ∧ Blk wr w.heap.size 53 #[.int .i64 sa, .slice A ka c] ∧ Blk wr (w.heap.size + 1) 53 #[.int .i64 sb, .slice A2 kb c2] ∧ Blk wr (w.heap.size + 1 + 1) 53 #[.int .i64 0, .slice none 0 0] ∧ Blk wr (w.heap.size + 1 + 1 + 1) 3 (darr zs) ∧ Below w.heap.size w wr) (fun _ kv _ => kb - (intOf kv).toNat)
      case atStart => exact ⟨0, 0, zs, rfl, rfl, Nat.zero_le _, ⟨Int.le_refl _, by decide⟩, HZl.out, HZo.out, HZz.out, HSt.out, HB1.out, HB2.out, HB3.out, HB4.out, HQ.out⟩
      case round =>
        as_aux_lemma =>
        clear HZl HZo HZv HB1 HB2 HB3 HB4 HQ HZz HSt
        clear wo zs
        obtain ⟨k, cy, zs, rfl, rfl, hk, hcy, hzl, hzo, hzz, hzv, hb1, hb2, hb3, hb4, hq⟩ := hrel
        have HCy := Lib.hid hcy
        have HZl := Lib.hid hzl
        have HZo := Lib.hid hzo
        have HZz := Lib.hid hzz
        have HZv := Lib.hid hzv
        have HB1 := Lib.hid hb1
        have HB2 := Lib.hid hb2
        have HB3 := Lib.hid hb3
        have HB4 := Lib.hid hb4
        have HQ := Lib.hid hq
        have k0 := wd_nn k
        have x0 := hb1.cellAt 0 rfl
        have x1 := hb1.cellAt 1 rfl
        have xl := hb1.lt
        have y0 := hb2.cellAt 0 rfl
        have y1 := hb2.cellAt 1 rfl
        have yl := hb2.lt
        have zl := hb4.lt
        clear hcy hzl hzo hzz hzv hb1 hb2 hb3 hb4 hq
        by_cases hkt : k < kb
        · have k1 := wd_lt hkt
          obtain ⟨q, o, rfl, hx, hqx⟩ := HX.out _ HQ.out i HI.out
          obtain ⟨q2, o2, rfl, hy, hqy⟩ := HY.out _ HQ.out k hkt
          obtain ⟨j, hj⟩ : ∃ j, i + k = j := ⟨_, rfl⟩
          have HJ := Lib.hid hj
          have hjn : j < n := jn_lt HI.out hk HM.out hj
          have j1 := wd_lt hjn
          have j0 := wd_nn j
          obtain ⟨e1, e1'⟩ := idx_wraps hj HNw.out hjn
          have HJn := Lib.hid hjn
          have HZj := Lib.hid (show ∀ s, s = zs.getD j 0 + xs.getD i 0 * ys.getD k 0 + cy → valD (zs.set j (s % wB)) + wB ^ (i + (k + 1)) * (s / wB) = valD (xs.take i) * valD ys + wB ^ i * (xs.getD i 0 * valD (ys.take (k + 1))) from fun s hs => by
            rw [← HJ.out] at hs ⊢
            exact mul_step (by rw [HZl.out, HJ.out]; exact HJn.out) HZv.out hs)
          have hz := HB4.out.cellAt j (darr_at (by rw [HZl.out]; exact HJn.out))
          have HOz := Lib.hid (okD_at HZo.out j)
          have HOx1 := Lib.hid (okD_at HOx.out i)
          have HOy1 := Lib.hid (okD_at HOy.out k)
          have HZz2 := Lib.hid (show ∀ v, (zs.set j v).getD (i + kb) 0 = 0 from fun v => by
            rw [getD_set _ (jn_ne hkt HJ.out)]; exact HZz.out)
          clear hj hjn
          generalize zs.getD j 0 = zj at *
          generalize hxi : xs.getD i 0 = xi at *
          generalize ys.getD k 0 = yk at *
          obtain ⟨p, hp⟩ : ∃ p, xi * yk = p := ⟨_, rfl⟩
          obtain ⟨r, hr⟩ : ∃ r, zj + p = r := ⟨_, rfl⟩
          obtain ⟨s, hs⟩ : ∃ s, r + cy = s := ⟨_, rfl⟩
          obtain ⟨⟨e2, e2'⟩, ⟨e3, e3'⟩, ⟨e4, e4'⟩, s3, s4, s5⟩ := mul_wraps HOz.out HOx1.out HOy1.out HCy.out hp hr hs
          have HSt := Lib.hid (HZj.out s (by rw [hp, hr]; exact hs.symm))
          have HXi := Lib.hid hxi
          obtain ⟨t1, t2, t3, t4⟩ := tm_eq s3
          have HMb := Lib.hid (mod_bd s)
          have HDb := Lib.hid (And.intro s4 s5)
          generalize s % wB = dm at *
          generalize s / wB = dq at *
          obtain ⟨t5, t5'⟩ := dig_wraps t1 HMb.out
          obtain ⟨t6, t6'⟩ := dig_wraps t3 HDb.out
          obtain ⟨t7, t7'⟩ := dig_wraps (rfl : dq = dq) HDb.out
          obtain ⟨e5, e5'⟩ := succ_wraps hkt HKb.out
          obtain ⟨kn, hkn⟩ : ∃ kn, k + 1 = kn := ⟨_, rfl⟩
          have HKn := Lib.hid hkn
          rw [hkn] at e5 e5'
          clear hkn
          clear hs hp hr hxi s3 s4 s5 HZj HX HY
          go_wp2
          refine region_below 20 follows_mixed (by kernel_rfl) ?_
          intro C hC
          simp only [List.take_succ_cons, List.take_zero, List.drop_succ_cons, List.drop_zero]
          repeat (first
            | ((with_reducible refine quiet_plain rfl (fun K hK => ?_)); (focus (apply quiet_val; (focus (intro w' hw; obtain ⟨hcq, hfq⟩ := bcell ((hC.out _).1 hw); go_simp; (first | done | rfl))); (simp only [Act.put, List.setIfInBounds_toArray, List.set_cons_succ, List.set_cons_zero]); (with_reducible refine hK _ ?_); clear hK K)))
            | ((with_reducible refine quiet_skip ?_ ?_); (focus (first | (simp [Region.wanted, yielded]; done) | (simp [Region.wanted, yielded, undef]; done))); simp only [Act.put, List.setIfInBounds_toArray, List.set_cons_succ, List.set_cons_zero])
            | ((with_reducible refine quiet_go ?_ (fun K hK => ?_)); (focus (first | (simp [Region.wanted, yielded]; done) | (simp [Region.wanted, yielded, undef]; done))); (focus (apply quiet_val; (focus (intro w' hw; obtain ⟨hcq, hfq⟩ := bcell ((hC.out _).1 hw); go_simp; (first | done | rfl))); (simp only [Act.put, List.setIfInBounds_toArray, List.set_cons_succ, List.set_cons_zero]); (with_reducible refine hK _ ?_); clear hK K))))
          refine wpQuiet_nil ?_
          intro w1 hb1
          replace hb1 := (hC.out _).1 hb1
          clear hC C
          obtain ⟨hc1, hf1⟩ := bcell hb1
          have HB1a := Lib.hid (HB1.out.past hb1)
          have HB2a := Lib.hid (HB2.out.past hb1)
          have HB3a := Lib.hid (HB3.out.past hb1)
          have HB4a := Lib.hid (HB4.out.past hb1)
          have HQa := Lib.hid (pt HQ.out hb1)
          clear hb1 hc1 hf1 x0 x1 xl y0 y1 yl zl hx hqx hy hqy hz HB1 HB2 HB3 HB4 HQ
          have g0 := HB4a.out.cellAt j (darr_at (by rw [HZl.out]; exact HJn.out))
          have g1 := HB4a.out.frozen j
          have gl := HB4a.out.lt
          go_wp2
          go_roundw
          case rel => exact ⟨k + 1, dq, zs.set j dm, rfl, by rw [HKn.out], Nat.succ_le_of_lt hkt, HDb.out, by rw [List.length_set]; exact HZl.out, okD_set HZo.out HMb.out, HZz2.out _, by first | exact HSt.out | (rw [HXi.out]; exact HSt.out), HB1a.out.far (ne_h0 _), HB2a.out.far (ne_h1 _), HB3a.out.far (ne_h2 _), by rw [← darr_set]; exact HB4a.out.set_ j _, ps HQa.out (Nat.le_add_right _ 3)⟩
          case measure => first | exact mul_meas hkt | (rw [show (kn : Int) = (k : Int) + 1 by rw [← HKn.out]; push_cast; rfl]; exact mul_meas hkt) | (simp only [intOf]; rw [← HKn.out]; exact mul_meas hkt)
        · obtain rfl : k = kb := Nat.le_antisymm hk (Nat.le_of_not_lt hkt)
          obtain ⟨j, hj⟩ : ∃ j, i + k = j := ⟨_, rfl⟩
          have HJ := Lib.hid hj
          have hjn : j < n := jn_lt HI.out hk HM.out hj
          have j1 := wd_lt hjn
          have j0 := wd_nn j
          obtain ⟨e1, e1'⟩ := idx_wraps hj HNw.out hjn
          have HJn := Lib.hid hjn
          have hz := HB4.out.cellAt j (darr_at (by rw [HZl.out]; exact HJn.out))
          have hzj : zs.getD j 0 = 0 := by rw [← HJ.out]; exact HZz.out
          rw [hzj] at hz
          have HEnd := Lib.hid (show valD (zs.set j (0 + cy)) = valD (xs.take (i + 1)) * valD ys by
            have h1 := HZv.out
            rw [← HLy.out, List.take_of_length_le (Nat.le_refl _)] at h1
            rw [← HJ.out, ← HLy.out, mul_row (by rw [HLy.out, HJ.out, HZl.out]; exact HJn.out) (by rw [HLy.out]; exact HZz.out) h1]
            exact mul_next)
          obtain ⟨e2, e2'⟩ := dig_wraps (Int.zero_add cy) HCy.out
          obtain ⟨e3, e3'⟩ := dig_wraps (rfl : cy = cy) HCy.out
          rw [Int.zero_add] at HEnd
          obtain ⟨e5, e5'⟩ := succ_wraps HI.out HKa.out
          obtain ⟨kn, hkn⟩ : ∃ kn, i + 1 = kn := ⟨_, rfl⟩
          have HKn := Lib.hid hkn
          rw [hkn] at e5 e5'
          clear hkn
          clear hj hjn hzj hkt
          go_wp2
          refine region_below 17 follows_mixed (by kernel_rfl) ?_
          intro C hC
          simp only [List.take_succ_cons, List.take_zero, List.drop_succ_cons, List.drop_zero]
          repeat (first
            | ((with_reducible refine quiet_plain rfl (fun K hK => ?_)); (focus (apply quiet_val; (focus (intro w' hw; obtain ⟨hcq, hfq⟩ := bcell ((hC.out _).1 hw); go_simp; (first | done | rfl))); (simp only [Act.put, List.setIfInBounds_toArray, List.set_cons_succ, List.set_cons_zero]); (with_reducible refine hK _ ?_); clear hK K)))
            | ((with_reducible refine quiet_skip ?_ ?_); (focus (first | (simp [Region.wanted, yielded]; done) | (simp [Region.wanted, yielded, undef]; done))); simp only [Act.put, List.setIfInBounds_toArray, List.set_cons_succ, List.set_cons_zero])
            | ((with_reducible refine quiet_go ?_ (fun K hK => ?_)); (focus (first | (simp [Region.wanted, yielded]; done) | (simp [Region.wanted, yielded, undef]; done))); (focus (apply quiet_val; (focus (intro w' hw; obtain ⟨hcq, hfq⟩ := bcell ((hC.out _).1 hw); go_simp; (first | done | rfl))); (simp only [Act.put, List.setIfInBounds_toArray, List.set_cons_succ, List.set_cons_zero]); (with_reducible refine hK _ ?_); clear hK K))))
          refine wpQuiet_nil ?_
          intro w1 hb1
          replace hb1 := (hC.out _).1 hb1
          clear hC C
          obtain ⟨hc1, hf1⟩ := bcell hb1
          have HB1a := Lib.hid (HB1.out.past hb1)
          have HB2a := Lib.hid (HB2.out.past hb1)
          have HB3a := Lib.hid (HB3.out.past hb1)
          have HB4a := Lib.hid (HB4.out.past hb1)
          have HQa := Lib.hid (pt HQ.out hb1)
          clear hb1 hc1 hf1 x0 x1 xl y0 y1 yl zl hz HB1 HB2 HB3 HB4 HQ
          have g0 := HB4a.out.cellAt j (darr_at (by rw [HZl.out]; exact HJn.out))
          have g1 := HB4a.out.frozen j
          have gl := HB4a.out.lt
          go_wp2
          go_roundw
          case rel => exact ⟨i + 1, zs.set j cy, by rw [HKn.out], HI.out, by rw [List.length_set]; exact HZl.out, okD_set HZo.out HCy.out, HEnd.out, HB1a.out.far (ne_h0 _), HB2a.out.far (ne_h1 _), HB3a.out.far (ne_h2 _), by rw [← darr_set]; exact HB4a.out.set_ j _, ps HQa.out (Nat.le_add_right _ 3)⟩
          case measure => first | exact mul_meas HI.out | (rw [show (kn : Int) = (i : Int) + 1 by rw [← HKn.out]; push_cast; rfl]; exact mul_meas HI.out) | (simp only [intOf]; rw [← HKn.out]; exact mul_meas HI.out)
    · obtain rfl : i = ka := Nat.le_antisymm hi (Nat.le_of_not_lt hlt)
      have i1 := wd_ne hlt
      have HFin := Lib.hid (show valD zs = ((a * b).natAbs : Int) by rw [HZv.out, ← HLx.out, List.take_of_length_le (Nat.le_refl _)]; exact HV.out)
      have hD := dig_darr HB4.out
      have HWo := Lib.hid (wideOf_any wr.heap.size zs (a * b) (sa * sb) (some ⟨w.heap.size + 1 + 1 + 1, 0, none⟩) n wr hD.ints (Nat.le_refl _) HZo.out HFin.out (fun _ => HSg.out) (by rw [HZl.out]; exact Nat.le_refl _) (by rw [HZl.out]; exact HNw.out) (.inr ⟨_, _, rfl⟩))
      rw [HZl.out] at HWo
      have HAt := Lib.hid (wide_at hD HZo.out HFin.out (by rw [HZl.out]; exact Nat.le_refl n) (.inr ⟨_, _, rfl⟩)).1
      clear hD
      have HWv := Lib.hid (show wideV (a * b) (some ⟨w.heap.size + 1 + 1 + 1, 0, none⟩) n = .agg #[.int .i64 (signD (a * b)), .slice (some ⟨w.heap.size + 1 + 1 + 1, 0, none⟩) (dl (a * b)) n] from rfl)
      rw [HWv.out] at HWo
      generalize signD (a * b) = sg at *
      generalize dl (a * b) = dg at *
      go_wp2_with (first
        | (go_at_call 104; (with_reducible refine HWo.out.mono ?_); rintro e w1 ⟨rfl, hb1⟩; have R1 := HB3.out.past hb1; have S1 := pt HQ.out hb1; have AT1 := HAt.out.past hb1)
        | ((with_reducible refine store_blk (T := 53) (x := .tmp 4) (y := .tmp 85) (vs := #[.int .i64 sg, .slice (some ⟨w.heap.size + 1 + 1 + 1, 0, none⟩) dg n]) R1 ?_ ?_ ?_ ?_ ?_ ?_); (focus rfl); (focus exact wide_size); (focus (simp [Value.oneCell']; done)); (focus rfl); (focus rfl); intro WF RF PF))
      have g0 := RF.cellAt 0 rfl
      have g1 := RF.cellAt 1 rfl
      exact bodyPost_ret (v := .agg #[.int .i64 sg, .slice (some ⟨w.heap.size + 1 + 1 + 1, 0, none⟩) dg n]) (by simp [results, Tryz.results62, go_sem, g0, g1]) rfl ⟨some ⟨w.heap.size + 1 + 1 + 1, 0, none⟩, n, by rw [HWv.out], AT1.put R1 (by decide) PF, pp S1 PF (Nat.le_add_right _ 2)⟩

end Go.Proofs.YtpdkbhjcpddnpaaGreatDoor
end
