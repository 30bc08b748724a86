/- Contracts: errors of windings, ceil, FewestDiscs (package design). Printed by a program (gen_d6wind.py).
Contracts: base.Floor, Ceil, DiscsOf, LengthOf, FewestDiscs (the specification of chapter 2). Printed by a program (gen_d6ref.py). -/
import Derived.Test.YtncbigkkmgnkmaaGreatDoorOf1
import Derived.Test.YtncbigkkmgnkmaaGreatDoorOf3
import Derived.Test.YtncbigkkmgnkmaaGreatDoorOe6
import Derived.Test.YtncbigkkmgnkmaaGreatDoorOc2

section
namespace Go.Proofs.YtncbigkkmgnkmaaGreatDoor
open Go.RowKit

set_option maxHeartbeats 1000000 in
theorem discsOf_err (t d cd g : Int) (w : World) (h0 : windE t d cd g ≠ 0) :
    Calls Tryz.prog 35 #[.agg #[.int .i64 t, .int .i64 d, .int .i64 cd, .int .i64 g]] w fun e w' => e = .returned (.tuple #[.slice none 0 0, .int .i64 (windE t d cd g)]) ∧ Below w.heap.size w w' := by
  have HE := Lib.hid (fun W => windingErr_any t d cd g W)
  have h1 : (windE t d cd g == 0) = false := by simpa using h0
  have h2 : (windE t d cd g != 0) = true := by simpa using h0
  generalize windE t d cd g = E at *
  go_enter Tryz.func35, Tryz.ntmps35
  go_wp2_with (go_at_call 69; refine (HE.out _).mono ?_; rintro e w1 ⟨rfl, hb1⟩; have HB1 := Lib.hid (pt (pa pr) hb1))
  go_ret2
  exact ⟨rfl, HB1.out⟩

set_option maxHeartbeats 1000000 in
theorem lengthOf_err (t d cd g : Int) (w : World) (h0 : windE t d cd g ≠ 0) :
    Calls Tryz.prog 36 #[.agg #[.int .i64 t, .int .i64 d, .int .i64 cd, .int .i64 g]] w fun e w' => e = .returned (.tuple #[.int .i64 0, .int .i64 (windE t d cd g)]) ∧ Below w.heap.size w w' := by
  have HE := Lib.hid (fun W => windingErr_any t d cd g W)
  have h1 : (windE t d cd g == 0) = false := by simpa using h0
  have h2 : (windE t d cd g != 0) = true := by simpa using h0
  generalize windE t d cd g = E at *
  go_enter Tryz.func36, Tryz.ntmps36
  go_wp2_with (go_at_call 69; refine (HE.out _).mono ?_; rintro e w1 ⟨rfl, hb1⟩; have HB1 := Lib.hid (pt (pa pr) hb1))
  go_ret2
  exact ⟨rfl, HB1.out⟩

theorem ceil_any (n m : Int) (h1 : 1 ≤ n ∧ n ≤ 10000) (h2 : 1 ≤ m ∧ m ≤ 10000) (w : World) :
    Calls Tryz.prog 74 #[.int .i64 n, .int .i64 m] w fun e w' => e = .returned (.int .i64 (ceilV n m)) ∧ w = w' := by
  have hz : ¬ m = 0 := by omega
  have hz2 : (m == 0) = false := by simpa using hz
  have hq : (n + m - 1).tdiv m = (n + m - 1) / m := Int.tdiv_eq_ediv_of_nonneg (by omega)
  have hq0 : 0 ≤ (n + m - 1) / m := Int.ediv_nonneg (by omega) (by omega)
  have hq1 : (n + m - 1) / m ≤ 20000 := by
    have := Int.ediv_le_self (a := n + m - 1) m (by omega)
    omega
  have HC := Lib.hid (show ceilV n m = (n + m - 1) / m from rfl)
  generalize ceilV n m = C at *
  generalize (n + m - 1) / m = q at *
  have hw : IntKind.i64.wrap q = q := IntWalk.i64_in _ (by omega)
  have hw2 : wrap64 q = q := w64 (by omega)
  have hw3 : wrap64 (n + m) = n + m := w64 (by omega)
  have hw4 : wrap64 (n + m - 1) = n + m - 1 := w64 (by omega)
  go_enter Tryz.func74, Tryz.ntmps74
  go_wp2
  go_ret
  exact ⟨ret_int HC.out.symm, rfl⟩

/-- The least number of discs, its length. -/
def fewK (t d : Int) : Int := ceilV t (ceilV t d)
def lenV (k cd g : Int) : Int := k * cd + (k - 1) * g
theorem few_bd {t d : Int} (ht : 1 ≤ t ∧ t ≤ 10000) (hd : 1 ≤ d ∧ d ≤ 500) : (1 ≤ ceilV t d ∧ ceilV t d ≤ 10000) ∧ 1 ≤ fewK t d ∧ fewK t d ≤ d ∧ fewK t d ≤ 500 := by
  have h1 := ceil_pos (n := t) (m := d) (by omega) ht.1
  have h2 : ceilV t d ≤ t := (ceil_le (by omega)).2 (by
    have := Int.mul_le_mul_of_nonneg_left hd.1 (show 0 ≤ t by omega)
    omega)
  have h3 := ceil_pos (n := t) (m := ceilV t d) (by omega) ht.1
  have h4 : fewK t d ≤ d := (ceil_le (by omega)).2 (by
    rw [Int.mul_comm]
    exact (ceil_le (by omega)).1 (Int.le_refl _))
  unfold fewK at *
  omega
/-- The error of FewestDiscs, and what it answers. -/
def fewE (t d cd g room : Int) : Int := firstV [windE t d cd g, unlessV (withinB room 1 1000000) 2]

set_option maxHeartbeats 2000000 in
set_option maxRecDepth 100000 in
theorem fewest_err (t d cd g room : Int) (w : World) (h0 : fewE t d cd g room ≠ 0) :
    Calls Tryz.prog 37 #[.agg #[.int .i64 t, .int .i64 d, .int .i64 cd, .int .i64 g], .int .i64 room] w fun e w' => e = .returned (.tuple #[.int .i64 0, .int .i64 (fewE t d cd g room)]) ∧ Below w.heap.size w w' := by
  have HE := Lib.hid (fun W => windingErr_any t d cd g W)
  have HV := Lib.hid (show firstV [windE t d cd g, unlessV (withinB room 1 1000000) 2] = fewE t d cd g room from rfl)
  have h1 : (fewE t d cd g room == 0) = false := by simpa using h0
  have h2 : (fewE t d cd g room != 0) = true := by simpa using h0
  generalize fewE t d cd g room = E at *
  generalize windE t d cd g = E1 at *
  go_enter Tryz.func37, Tryz.ntmps37
  go_wp2_with (first
    | (go_at_call 69; refine (HE.out _).mono ?_; rintro e w1 ⟨rfl, hb1⟩; have HB1 := Lib.hid (pt (pa pr) hb1))
    | (go_at_call 73; refine (within_any _ _ _ _).mono ?_; rintro e w' ⟨rfl, rfl⟩)
    | (go_at_call 72; refine (unless_any _ _ _).mono ?_; rintro e w' ⟨rfl, rfl⟩)
    | (go_at_call 57; refine (first2 _ _ _ _ _ (by first | (go_simp; done) | (go_simp; rfl)) (by first | (go_simp; done) | (go_simp; rfl)) _ HV.out).mono ?_; rintro e w' ⟨rfl, rfl⟩))
  go_ret2
  exact ⟨rfl, pa HB1.out⟩

set_option maxHeartbeats 4000000 in
set_option maxRecDepth 100000 in
theorem fewest_any (t d cd g room : Int) (w : World) (h0 : windE t d cd g = 0) (hr : withinB room 1 1000000 = true) :
    Calls Tryz.prog 37 #[.agg #[.int .i64 t, .int .i64 d, .int .i64 cd, .int .i64 g], .int .i64 room] w fun e w' => e = .returned (if room < lenV (fewK t d) cd g then .tuple #[.int .i64 0, .int .i64 22] else .tuple #[.int .i64 (fewK t d), .int .i64 0]) ∧ Below w.heap.size w w' := by
  have hok := windE_ok h0
  have HE := Lib.hid (fun W => windingErr_any t d cd g W)
  rw [h0] at HE
  have HV := Lib.hid (show firstV [0, unlessV true 2] = 0 from rfl)
  obtain ⟨b1, b2, b3, b4⟩ := few_bd hok.1 hok.2.1
  have HC1 := Lib.hid (fun W => ceil_any t d hok.1 (by omega) W)
  have HC2 := Lib.hid (fun W => ceil_any t (ceilV t d) hok.1 (by omega) W)
  have HL := Lib.hid (fun W => length_any t d cd g (fewK t d) W (by omega) hok.2.2.1 hok.2.2.2.1)
  unfold fewK lenV at *
  generalize ceilV t (ceilV t d) = K at *
  generalize ceilV t d = C at *
  generalize K * cd + (K - 1) * g = L at *
  clear hok b1 b2 b3 b4 h0
  go_enter Tryz.func37, Tryz.ntmps37
  go_wp2_with (first
    | (go_at_call 69; refine (HE.out _).mono ?_; rintro e w1 ⟨rfl, hb1⟩; have HB1 := Lib.hid (pt (pa pr) hb1); have R1 := Lib.hid ((show Blk (w.alloc (.cells #[.int .i64 t, .int .i64 d, .int .i64 cd, .int .i64 g] 71)) w.heap.size 71 #[.int .i64 t, .int .i64 d, .int .i64 cd, .int .i64 g] from Blk.newAt rfl).past hb1); have x0 := R1.out.cellAt 0 rfl; have x1 := R1.out.cellAt 1 rfl; have x2 := R1.out.cellAt 2 rfl; have x3 := R1.out.cellAt 3 rfl; have xl := R1.out.lt; clear hb1)
    | (go_at_call 73; refine (within_any _ _ _ _).mono ?_; rintro e w' ⟨rfl, rfl⟩; rw [hr])
    | (go_at_call 72; refine (unless_any _ _ _).mono ?_; rintro e w' ⟨rfl, rfl⟩)
    | (go_at_call 57; refine (first2 _ _ _ _ _ (by first | (go_simp; done) | (go_simp; rfl)) (by first | (go_simp; done) | (go_simp; rfl)) _ HV.out).mono ?_; rintro e w' ⟨rfl, rfl⟩))
  refine region_below 8 follows_mixed (by kernel_rfl) ?_
  intro C hC
  simp only [List.take_succ_cons, List.take_zero, List.drop_succ_cons, List.drop_zero]
  repeat (first
    | ((with_reducible refine quiet_plain rfl (fun K hK => ?_)); (focus (apply quiet_val; (focus (intro w' hw; obtain ⟨hcq, hfq⟩ := bcell ((hC.out _).1 hw); go_simp; (first | done | rfl | (with_reducible exact call_same hw (HC1.out _)) | (with_reducible exact call_same hw (HC2.out _))))); (simp only [Act.put, List.setIfInBounds_toArray, List.set_cons_succ, List.set_cons_zero]); (with_reducible refine hK _ ?_); clear hK K)))
    | ((with_reducible refine quiet_skip ?_ ?_); (focus (first | (simp [Region.wanted, yielded]; done) | (simp [Region.wanted, yielded, undef]; done))); simp only [Act.put, List.setIfInBounds_toArray, List.set_cons_succ, List.set_cons_zero])
    | ((with_reducible refine quiet_go ?_ (fun K hK => ?_)); (focus (first | (simp [Region.wanted, yielded]; done) | (simp [Region.wanted, yielded, undef]; done))); (focus (apply quiet_val; (focus (intro w' hw; obtain ⟨hcq, hfq⟩ := bcell ((hC.out _).1 hw); go_simp; (first | done | rfl | (with_reducible exact call_same hw (HC1.out _)) | (with_reducible exact call_same hw (HC2.out _))))); (simp only [Act.put, List.setIfInBounds_toArray, List.set_cons_succ, List.set_cons_zero]); (with_reducible refine hK _ ?_); clear hK K))))
  refine wpQuiet_nil ?_
  intro w1 hb1
  replace hb1 := (hC.out _).1 hb1
  clear hC C
  obtain ⟨hc1, hf1⟩ := bcell hb1
  have HB3 := Lib.hid (pt (pa HB1.out) hb1)
  have R3 := Lib.hid ((R1.out.alloc).past hb1)
  clear hb1 hc1 hf1 x0 x1 x2 x3 xl
  have x0 := R3.out.cellAt 0 rfl
  have x1 := R3.out.cellAt 1 rfl
  have x2 := R3.out.cellAt 2 rfl
  have x3 := R3.out.cellAt 3 rfl
  have xl := R3.out.lt
  by_cases hlt : room < L
  · go_wp2_with (go_at_call 71; refine (HL.out _).mono ?_; rintro e w4 ⟨rfl, hb4⟩; have HB4 := Lib.hid (pt HB3.out hb4); clear hb4)
    go_ret2
    exact ⟨by first | rfl | (rw [if_pos hlt]; rfl), HB4.out⟩
  · go_wp2_with (go_at_call 71; refine (HL.out _).mono ?_; rintro e w4 ⟨rfl, hb4⟩; have HB4 := Lib.hid (pt HB3.out hb4); clear hb4)
    go_ret2
    exact ⟨by first | rfl | (rw [if_neg hlt]; rfl), HB4.out⟩

end Go.Proofs.YtncbigkkmgnkmaaGreatDoor
end

section
namespace Go.Proofs.YtncbigkkmgnkmaaGreatDoor
open Go.RowKit

theorem div_facts {t m : Int} (h1 : 1 ≤ t ∧ t ≤ 10000) (h2 : 1 ≤ m ∧ m ≤ 10000) : (0 ≤ t / m ∧ t / m ≤ 10000) ∧ (0 ≤ t % m ∧ t % m ≤ 10000) ∧ t.tdiv m = t / m ∧ t.tmod m = t % m := by
  refine ⟨⟨Int.ediv_nonneg (by omega) (by omega), ?_⟩, ⟨Int.emod_nonneg _ (by omega), ?_⟩, Int.tdiv_eq_ediv_of_nonneg (by omega), Int.tmod_eq_emod_of_nonneg (by omega)⟩
  · have := Int.ediv_le_self (a := t) m (by omega); omega
  · have := Int.emod_lt_of_pos t (b := m) (by omega); omega

theorem floor_neg (t m : Int) (h1 : 1 ≤ t ∧ t ≤ 10000) (h2 : 1 ≤ m ∧ m ≤ 10000) (w : World) :
    Calls Tryz.prog 96 #[.int .i64 (-t), .int .i64 m] w fun e w' => e = .returned (.int .i64 (-(ceilV t m))) ∧ w = w' := by
  obtain ⟨q0, r0, hq, hr⟩ := div_facts h1 h2
  have hz : ¬ m = 0 := by omega
  have hz2 : (m == 0) = false := by simpa using hz
  have e1 : (-t).tdiv m = -(t / m) := by rw [Int.neg_tdiv, hq]
  have e2 : (-t).tmod m = -(t % m) := by rw [Int.neg_tmod, hr]
  have HC := Lib.hid (show ceilV t m = t / m + (if 0 < t % m then 1 else 0) by rw [← disc_zero h2.1]; rfl)
  generalize ceilV t m = C at *
  generalize t / m = q at *
  generalize t % m = r at *
  have hw1 : IntKind.i64.wrap (-q) = -q := IntWalk.i64_in _ (by omega)
  have hw2 : IntKind.i64.wrap (-r) = -r := IntWalk.i64_in _ (by omega)
  have hw3 : wrap64 (-q) = -q := w64 (by omega)
  have hw4 : wrap64 (-r) = -r := w64 (by omega)
  have hw5 : wrap64 (-q - 1) = -q - 1 := w64 (by omega)
  by_cases hp : 0 < r
  · have hX := Lib.hid (show -C = -q - 1 by rw [HC.out, if_pos hp]; omega)
    have hneg : -r < 0 := by omega
    clear HC
    go_enter Tryz.func96, Tryz.ntmps96
    go_wp2
    go_ret
    exact ⟨ret_int (by rw [hX.out]; try omega), rfl⟩
  · have hX := Lib.hid (show -C = -q by rw [HC.out, if_neg hp]; omega)
    have hneg : ¬ -r < 0 := by omega
    clear HC
    go_enter Tryz.func96, Tryz.ntmps96
    go_wp2
    go_ret
    exact ⟨ret_int (by rw [hX.out]; try omega), rfl⟩

theorem ceil_ref (t m : Int) (h1 : 1 ≤ t ∧ t ≤ 10000) (h2 : 1 ≤ m ∧ m ≤ 10000) (w : World) :
    Calls Tryz.prog 75 #[.int .i64 t, .int .i64 m] w fun e w' => e = .returned (.int .i64 (ceilV t m)) ∧ w = w' := by
  have HF := Lib.hid (fun W => floor_neg t m h1 h2 W)
  have hb : 0 ≤ ceilV t m ∧ ceilV t m ≤ 10001 := by
    obtain ⟨q0, r0, -, -⟩ := div_facts h1 h2
    rw [← disc_zero h2.1]
    unfold discV
    split <;> omega
  generalize ceilV t m = C at *
  have hw1 : wrap64 (-t) = -t := w64 (by omega)
  have hw2 : wrap64 (-(-C)) = C := by rw [Int.neg_neg]; exact w64 (by omega)
  have hw3 : wrap64 C = C := w64 (by omega)
  go_enter Tryz.func75, Tryz.ntmps75
  go_wp2_with (go_at_call 96; refine (HF.out _).mono ?_; rintro e w' ⟨rfl, rfl⟩)
  go_ret
  exact ⟨ret_int (by first | rfl | exact hw2 | omega), rfl⟩

set_option maxHeartbeats 1000000 in
theorem refLengthOf_any (t d cd g : Int) (w : World) (hn : 1 ≤ d ∧ d ≤ 500) (hc : 1 ≤ cd ∧ cd ≤ 1000) (hg : 0 ≤ g ∧ g ≤ 1000) :
    Calls Tryz.prog 40 #[.agg #[.int .i64 t, .int .i64 d, .int .i64 cd, .int .i64 g]] w fun e w' => e = .returned (.int .i64 (lenV d cd g)) ∧ Below w.heap.size w w' := by
  have m1 := Int.mul_le_mul hn.2 hc.2 (by omega) (by decide)
  have m2 := Int.mul_nonneg (show 0 ≤ d by omega) (show 0 ≤ cd by omega)
  have m3 := Int.mul_le_mul (show d - 1 ≤ 500 by omega) hg.2 hg.1 (by decide)
  have m4 := Int.mul_nonneg (show 0 ≤ d - 1 by omega) hg.1
  have w1 : wrap64 (d * cd) = d * cd := w64 (by omega)
  have w2 : wrap64 ((d - 1) * g) = (d - 1) * g := w64 (by omega)
  have w3 : wrap64 (d * cd + (d - 1) * g) = d * cd + (d - 1) * g := w64 (by omega)
  have w4 : wrap64 (d - 1) = d - 1 := w64 (by omega)
  unfold lenV
  clear m1 m2 m3 m4
  go_enter Tryz.func40, Tryz.ntmps40
  go_wp2
  go_ret
  exact ⟨ret_int (by first | rfl | exact w3), pa pr⟩

theorem own_ltW {w : World} {base : Nat} {e : TypeId} {size n : Nat} {v : Value} {xs : List Value} (h : w.ownsRow base e size v n xs) {g : Nat} (hg : g < base) : some g ≠ v.ownBlock := fun e => by
  have := (h.lt g e.symm).1
  omega

set_option maxHeartbeats 4000000 in
set_option maxRecDepth 100000 in
theorem refDiscsOf_any (t cd g : Int) (n : Nat) (w : World) (h0 : windE t (n : Int) cd g = 0) :
    Calls Tryz.prog 39 #[.agg #[.int .i64 t, .int .i64 (n : Int), .int .i64 cd, .int .i64 g]] w fun e w' => ∃ A c, e = .returned (.slice A n c) ∧ IntsIn w'.heap.size w' A (discsL t (n : Int) n) ∧ n ≤ c ∧ Below w.heap.size w w' := by
  have hok := windE_ok h0
  have hn5 : n ≤ 500 := by omega
  obtain ⟨q0, r0, hq, hr⟩ := div_facts hok.1 (m := (n : Int)) (by omega)
  have hz : ¬ (n : Int) = 0 := by omega
  have hz2 : ((n : Int) == 0) = false := by simpa using hz
  have hzn : ¬ n = 0 := by omega
  obtain ⟨i0, hi0, hz0, hz1, hz3⟩ := info_parts int_info
  have ht := hok.1
  have HSn := Lib.hid (fun k => discs_snoc t (n : Int) k)
  have HDv := Lib.hid (fun k : Nat => (show discV t (n : Int) k = t / (n : Int) + (if (k : Int) < t % (n : Int) then 1 else 0) from rfl))
  clear h0 hok
  generalize t / (n : Int) = q at *
  generalize t % (n : Int) = r at *
  have hw1 : IntKind.i64.wrap q = q := IntWalk.i64_in _ (by omega)
  have hw2 : IntKind.i64.wrap r = r := IntWalk.i64_in _ (by omega)
  have hw3 : wrap64 q = q := w64 (by omega)
  have hw4 : wrap64 r = r := w64 (by omega)
  have hw5 : wrap64 (q + 1) = q + 1 := w64 (by omega)
  go_enter Tryz.func39, Tryz.ntmps39
  go_wp2
  go_loopw [3, 4] (fun ov iv wr => ∃ (k : Nat) (A : Option Addr) (c : Nat), iv = .int .i64 (k : Int) ∧ k ≤ n ∧ ov = .slice A k c ∧ wr.ownsRow (w.heap.size + 1) 3 1 (.slice A k c) k ((discsL t (n : Int) k).map (Value.int .i64)) ∧ Blk wr w.heap.size 71 #[.int .i64 t, .int .i64 (n : Int), .int .i64 cd, .int .i64 g] ∧ Below w.heap.size w wr) (fun _ iv _ => n - (intOf iv).toNat)
  case atStart => exact ⟨0, none, 0, rfl, Nat.zero_le _, rfl, World.ownsRow_nil _ _ _ _, Blk.newAt rfl, pa pr⟩
  case round =>
    obtain ⟨k, A, c, rfl, hk, rfl, hown, hblk, hb⟩ := hrel
    have HO := Lib.hid hown
    have HK := Lib.hid hblk
    have HB := Lib.hid hb
    have x0 := hblk.cellAt 0 rfl
    have x1 := hblk.cellAt 1 rfl
    have xl := hblk.lt
    have hs := hb.size
    clear hown hblk hb
    by_cases hlt : k < n
    · have k1 : (k : Int) < (n : Int) := by omega
      have hmx : k + 1 ≤ maxLen := by simp only [maxLen]; omega
      have HX := Lib.hid (HSn.out k)
      have HD := Lib.hid (HDv.out k)
      by_cases hkr : (k : Int) < r
      · have HV := Lib.hid (show discV t (n : Int) k = q + 1 by rw [HD.out, if_pos hkr])
        go_wp2_with (at_builtin; go_must (refine wpList_append_cells _ rfl (.tmp 26) (.tmp 28) _ rfl (w.heap.size + 1) 3 i0 _ 1 8 Tryz.underlying32 hi0 hz0 hz1 hz3 rfl (by omega) _ k _ rfl (HO.out.alloc _) (wr.heap.size + 1) (some ⟨wr.heap.size, 0, none⟩) 1 1 [.int .i64 (q + 1)] rfl (cellsIn_one _ _ _) rfl (by simp [Value.oneCell']) hmx (by omega) (by simp; omega) ?_); intro v9 w9 hown9 hg9 _; obtain ⟨A9, c9, rfl, hc9, hm9⟩ := own_form hown9)
        have HO9 := Lib.hid hown9
        have HB9 := Lib.hid (pg (pa HB.out) (HO.out.alloc _) (Nat.le_succ _) hg9)
        have HK9 := Lib.hid ((HK.out.alloc).grown hg9 (own_ltW (HO.out.alloc (.cells #[.int .i64 (q + 1)] 3)) (Nat.lt_succ_self _)))
        clear hown9 hg9
        go_roundw
        case rel => exact ⟨k + 1, A9, c9, by go_num, by omega, rfl, by rw [HX.out, List.map_append, HV.out]; exact HO9.out, HK9.out, HB9.out⟩
        case measure => simp [intOf]; omega
      · have HV := Lib.hid (show discV t (n : Int) k = q by rw [HD.out, if_neg hkr]; omega)
        go_wp2_with (at_builtin; go_must (refine wpList_append_cells _ rfl (.tmp 26) (.tmp 28) _ rfl (w.heap.size + 1) 3 i0 _ 1 8 Tryz.underlying32 hi0 hz0 hz1 hz3 rfl (by omega) _ k _ rfl (HO.out.alloc _) (wr.heap.size + 1) (some ⟨wr.heap.size, 0, none⟩) 1 1 [.int .i64 (q)] rfl (cellsIn_one _ _ _) rfl (by simp [Value.oneCell']) hmx (by omega) (by simp; omega) ?_); intro v9 w9 hown9 hg9 _; obtain ⟨A9, c9, rfl, hc9, hm9⟩ := own_form hown9)
        have HO9 := Lib.hid hown9
        have HB9 := Lib.hid (pg (pa HB.out) (HO.out.alloc _) (Nat.le_succ _) hg9)
        have HK9 := Lib.hid ((HK.out.alloc).grown hg9 (own_ltW (HO.out.alloc (.cells #[.int .i64 q] 3)) (Nat.lt_succ_self _)))
        clear hown9 hg9
        go_roundw
        case rel => exact ⟨k + 1, A9, c9, by go_num, by omega, rfl, by rw [HX.out, List.map_append, HV.out]; exact HO9.out, HK9.out, HB9.out⟩
        case measure => simp [intOf]; omega
    · have hkn : k = n := by omega
      subst hkn
      have hc : k ≤ c := by
        obtain ⟨A9, c9, h9, h8, _⟩ := own_form HO.out
        injection h9 with _ _ h7
        omega
      go_wp2
      go_ret
      exact ⟨A, c, rfl, intsIn_of_own HO.out, hc, HB.out⟩


set_option maxHeartbeats 4000000 in
set_option maxRecDepth 100000 in
theorem refFewest_any (t cd g : Int) (n : Nat) (w : World) (h0 : windE t (n : Int) cd g = 0) :
    Calls Tryz.prog 42 #[.agg #[.int .i64 t, .int .i64 (n : Int), .int .i64 cd, .int .i64 g]] w fun e w' => e = .returned (.tuple #[.int .i64 (fewK t (n : Int)), .int .i64 (lenV (fewK t (n : Int)) cd g)]) ∧ Below w.heap.size w w' := by
  have hok := windE_ok h0
  have hn5 : 1 ≤ n ∧ n ≤ 500 := by omega
  obtain ⟨b1, b2, b3, b4⟩ := few_bd hok.1 hok.2.1
  have hD0 : (discsL t (n : Int) n).getD 0 0 = ceilV t (n : Int) := by rw [discs_at (by omega), disc_zero (by omega)]
  have hDl := discs_len t (n : Int) n
  have HDi := Lib.hid (fun W => (show Calls Tryz.prog 39 #[.agg #[.int .i64 t, .int .i64 (n : Int), .int .i64 cd, .int .i64 g]] W fun e w' => ∃ ba oa c, e = .returned (.slice (some ⟨ba, oa, none⟩) n c) ∧ w'.cell? ⟨ba, oa, none⟩ = some (.int .i64 (ceilV t (n : Int))) ∧ ba < w'.heap.size ∧ Below W.heap.size W w' from (refDiscsOf_any t cd g n W h0).mono fun e w' h => by
    obtain ⟨A, c, rfl, hi, _, hb⟩ := h
    obtain ⟨ba, oa, rfl, hba, hca⟩ := hi.at_ (k := 0) (by rw [hDl]; omega)
    have cc := hca 0 (by rw [hDl]; omega)
    rw [hD0, Nat.add_zero] at cc
    exact ⟨ba, oa, c, rfl, cc, hba, hb⟩))
  have HCe := Lib.hid (fun (k : Int) (hk : 1 ≤ k ∧ k ≤ 500) W => ceil_ref t k hok.1 (by omega) W)
  have HFw := Lib.hid (fun (k : Int) (hk : 1 ≤ k) => fewest (t := t) (d := (n : Int)) hok.2.1.1 hok.1.1 k hk)
  have HLe := Lib.hid (fun (k : Int) (hk : 1 ≤ k ∧ k ≤ 500) W => refLengthOf_any t k cd g W hk hok.2.2.1 hok.2.2.2.1)
  have ht := hok.1
  have hc := hok.2.2.1
  have hg := hok.2.2.2.1
  clear h0 hok
  unfold fewK at *
  generalize ceilV t (ceilV t (n : Int)) = K at *
  generalize ceilV t (n : Int) = C at *
  clear hD0 hDl
  have z0 : (0 : Int) < (n : Int) := by omega
  have zn : 0 < n := by omega
  go_enter Tryz.func42, Tryz.ntmps42
  go_wp2_with (go_at_call 39; refine (HDi.out _).mono ?_; rintro e w1 ⟨ba, oa, c1, rfl, cc, hba, hb⟩; have HB1 := Lib.hid (pt (pa pr) hb); have R1 := Lib.hid ((show Blk (w.alloc (.cells #[.int .i64 t, .int .i64 (n : Int), .int .i64 cd, .int .i64 g] 71)) w.heap.size 71 #[.int .i64 t, .int .i64 (n : Int), .int .i64 cd, .int .i64 g] from Blk.newAt rfl).past hb); clear hb)
  clear HDi cc hba
  go_loopw [5] (fun iv wr => ∃ k : Int, iv = .int .i64 k ∧ 1 ≤ k ∧ k ≤ K ∧ Blk wr w.heap.size 71 #[.int .i64 t, .int .i64 (n : Int), .int .i64 cd, .int .i64 g] ∧ Below w.heap.size w wr) (fun iv _ => (K - intOf iv).toNat)
  case atStart => exact ⟨1, rfl, by omega, by omega, R1.out, HB1.out⟩
  case round =>
    obtain ⟨k, rfl, hk1, hk2, hblk, hb⟩ := hrel
    clear R1 HB1
    have HK := Lib.hid hblk
    have HB := Lib.hid hb
    have x0 := hblk.cellAt 0 rfl
    have x1 := hblk.cellAt 1 rfl
    have x2 := hblk.cellAt 2 rfl
    have x3 := hblk.cellAt 3 rfl
    have xl := hblk.lt
    have hs := hb.size
    have HC := Lib.hid (fun W => HCe.out k (by omega) W)
    have hf := HFw.out k hk1
    have HL := Lib.hid (fun W => HLe.out k (by omega) W)
    clear hblk hb HCe HFw HLe
    generalize ceilV t k = Ck at *
    by_cases hlt : k < K
    · have hn2 : ¬ Ck ≤ C := fun h => by have := hf.1 h; omega
      clear hf
      go_wp2_with (go_at_call 75; refine (HC.out _).mono ?_; rintro e w' ⟨rfl, rfl⟩)
      go_roundw
      case rel => exact ⟨k + 1, by go_num, by omega, by omega, HK.out.alloc, pa HB.out⟩
      case measure => simp [intOf]; omega
    · have hkk : k = K := by omega
      have hy : Ck ≤ C := hf.2 (by omega)
      clear hf
      subst hkk
      go_wp2_with (first
        | (go_at_call 75; refine (HC.out _).mono ?_; rintro e w' ⟨rfl, rfl⟩)
        | (go_at_call 40; refine (HL.out _).mono ?_; rintro e w2 ⟨rfl, hb2⟩; have HB2 := Lib.hid hb2))
      go_ret2
      exact ⟨rfl, pt (pa HB.out) HB2.out⟩

end Go.Proofs.YtncbigkkmgnkmaaGreatDoor
end
