/- The law TopDesignCore: the main way. Printed by a program (gen_d3main.py).
The law TopDesignCore: it returns true at every input. -/
import Derived.Test.YtabbehmodmmgoaaDoorOf2
import Derived.Test.YtabbehmodmmgoaaDoorOf3
import Derived.Test.YtabbehmodmmgoaaDoorOf4

section
namespace Go.Proofs.YtabbehmodmmgoaaDoor
open Go.RowKit

theorem stepsE_all {d : Int} {ws : List Int} (hd : 1 ≤ d ∧ d ≤ 200) (he : wE d ws = 0) (hz : 0 < ws.length) (h7 : ws.length ≤ 7) : widthsE d ws = 0 ∧ stepsE d ws (ws.length : Int) = 0 := by
  have h1 : widthsE d ws = 0 := by
    unfold widthsE
    have h2 : diamE d = 0 := diamE_ok.2 (by omega)
    rw [if_neg (by simp [h2])]
    exact he
  refine ⟨h1, ?_⟩
  unfold stepsE
  refine firstV_zero.2 ⟨h1, firstV_zero.2 ⟨(unless_ne (by decide)).2 ?_, firstV_zero.2 ⟨(unless_ne (by decide)).2 ?_, rfl⟩⟩⟩
  · simp only [withinB, Bool.and_eq_true, decide_eq_true_eq]; omega
  · simpa using hz
/-- A copy of the widths, in memory of its own. -/
theorem copy_form {ws : List Int} {W : World} {e : Ending} {w' : World} (h : RowRet W ws e w') : ∃ A c, e = .returned (.slice A ws.length c) ∧ IntsIn w'.heap.size w' A ws ∧ Below W.heap.size W w' := by
  obtain ⟨v, rfl, ho, hb⟩ := h
  obtain ⟨A, c, rfl, _, _⟩ := own_form ho
  exact ⟨A, c, rfl, intsIn_of_own ho, hb⟩
theorem len_eq {n cd g : Int} : n * cd + (n - 1) * g = n * (cd + g) - g := by
  rw [Int.mul_add, Int.sub_mul, Int.one_mul]
  omega

set_option maxRecDepth 100000 in
set_option maxHeartbeats 8000000 in
theorem top_main (B : Nat) (d : Int) (ws : List Int) (A : Option Addr) (n c : Nat) (t dni cd g : Int) (w : World) (hU : UnitIn w) (hr : IntsIn B w A ws) (hB : B ≤ w.heap.size) (hn : ws.length = n) (h0 : withinB d 1 200 = true) (hz : ¬ n = 0) (h7 : n ≤ 7) (he : wE d ws = 0) (hi : windE t dni cd g = 0) :
    Calls Tryd.prog 3 #[.int .i64 d, .slice A n c, .agg #[.int .i64 t, .int .i64 dni, .int .i64 cd, .int .i64 g]] w fun e w' => e = .returned (.bool true) ∧ Below w.heap.size w w' := by
  subst hn
  have hd : 1 ≤ d ∧ d ≤ 200 := by simpa [withinB] using h0
  have hwi := windE_ok hi
  obtain ⟨dn, rfl⟩ : ∃ dn : Nat, dni = (dn : Int) := ⟨dni.toNat, by omega⟩
  obtain ⟨hwe, hse⟩ := stepsE_all hd he (by omega) h7
  have hok := (wE_ok he).1
  have HSh := Lib.hid (designShown_any (w.alloc (.cells #[.int .i64 t, .int .i64 (dn : Int), .int .i64 cd, .int .i64 g] 24)) (hU.below (pa pr)))
  have HWe := Lib.hid (fun W (hW : Below w.heap.size w W) => refWidthsErr_any B d ws A ws.length c W (hr.below (hW.mono hB)) (Nat.le_trans hB hW.size) rfl (by omega))
  have HWi := Lib.hid (fun W => refWindingErr_any t dn cd g W)
  rw [he] at HWe
  rw [hi] at HWi
  have HCo := Lib.hid (fun W (hW : Below w.heap.size w W) => (copyInts_any B A ws.length c ws W (hr.below (hW.mono hB)) rfl (Nat.le_trans hB hW.size) (by omega)).mono (fun _ _ h => copy_form h))
  have hBF := best_facts (most := ws.length) hd.1 hok
  have hBA := best_is_all hd.1 hok (Nat.le_refl ws.length)
  have hsb : stepsB d ws (ws.length : Int) = bestD d ws ws.length := by unfold stepsB; rw [if_pos hse]; simp
  have HBs := Lib.hid (fun (W : World) (A' : Option Addr) (c' : Nat) (h : IntsIn W.heap.size W A' ws) => bestSteps_any W.heap.size d ws A' ws.length c' (ws.length : Int) W h (Nat.le_refl _) rfl (by omega))
  simp only [hsb, hse, hBA] at HBs
  have HAr := Lib.hid (fun (W : World) (A' : Option Addr) (c' : Nat) (h : IntsIn W.heap.size W A' ws) => AreaOf_any W.heap.size d ws A' ws.length c' W h (Nat.le_refl _) rfl (by omega))
  simp only [hwe, if_true] at HAr
  obtain ⟨hS1, -, hS2, hS3, -⟩ := hBF
  rw [hBA] at hS3
  generalize (bestD d ws ws.length).1 = S at *
  generalize areaD d ws = G at *
  have HDi := Lib.hid (fun W => discsOf_any t cd g dn W hi)
  have HLe := Lib.hid (fun W => lengthOf_any t dn cd g W hi)
  simp only [len_eq] at HLe
  have hz1 : ((ws.length : Int) == 0) = false := beq_eq_false_iff_ne.2 (by omega)
  have hz2 : ¬ (7 : Int) < (ws.length : Int) := by omega
  have hz3 : ¬ (ws.length : Int) < (S.length : Int) := by omega
  have HS := Lib.hid hS1
  have HSA := Lib.hid hS3
  have HHe := Lib.hid (fun (v : Int) (hv : 1 ≤ v ∧ v ≤ d) (W : World) => HeightOf_any d v W)
  have hfv : ∀ v : Int, 1 ≤ v ∧ v ≤ d → firstV [diamE d, unlessV (withinB v 1 d) 2] = 0 := fun v hv => firstV_zero.2 ⟨diamE_ok.2 (by omega), firstV_zero.2 ⟨(unless_ne (by decide)).2 (by simp only [withinB, Bool.and_eq_true, decide_eq_true_eq]; omega), rfl⟩⟩
  have HHe2 := Lib.hid (fun (v : Int) (hv : 1 ≤ v ∧ v ≤ d) (W : World) => (show Calls Tryd.prog 14 #[.int .i64 d, .int .i64 v] W fun e w' => e = .returned (.tuple #[.int .i64 (hgt d v), .int .i64 0]) ∧ Below W.heap.size W w' by
    have h := HeightOf_any d v W
    rw [hfv v hv, if_pos rfl] at h
    exact h))
  clear HHe hfv hU hr hok he hse hwe hsb hBA hS1 hS3
  generalize hN : ws.length = n at *
  generalize hM : S.length = m at *
  obtain ⟨i0, hi0, hz0, hz01, hz02⟩ := info_parts int_info
  go_enter Tryd.func3, Tryd.ntmps3
  go_wp2_with (first
    | (go_at_call 7; refine (HSh.out).mono ?_; rintro e w1 ⟨rfl, hb⟩; have R1 := Lib.hid ((show Blk (w.alloc (.cells #[.int .i64 t, .int .i64 (dn : Int), .int .i64 cd, .int .i64 g] 24)) w.heap.size 24 #[.int .i64 t, .int .i64 (dn : Int), .int .i64 cd, .int .i64 g] from Blk.newAt rfl).past hb); have HB1 := Lib.hid (pt (pa pr) hb); clear hb; have x0 := R1.out.cellAt 0 rfl; have x1 := R1.out.cellAt 1 rfl; have x2 := R1.out.cellAt 2 rfl; have x3 := R1.out.cellAt 3 rfl; have xl := R1.out.lt)
    | (go_at_call 9; refine (HWe.out _ HB1.out).mono ?_; rintro e w2 ⟨rfl, hb⟩; have R2 := Lib.hid (R1.out.past hb); have HB2 := Lib.hid (pt HB1.out hb); clear hb x0 x1 x2 x3 xl; have x0 := R2.out.cellAt 0 rfl; have x1 := R2.out.cellAt 1 rfl; have x2 := R2.out.cellAt 2 rfl; have x3 := R2.out.cellAt 3 rfl; have xl := R2.out.lt)
    | (go_at_call 10; refine (HWi.out _).mono ?_; rintro e w3 ⟨rfl, hb⟩; have R3 := Lib.hid (R2.out.past hb); have HB3 := Lib.hid (pt HB2.out hb); clear hb x0 x1 x2 x3 xl; have x0 := R3.out.cellAt 0 rfl; have x1 := R3.out.cellAt 1 rfl; have x2 := R3.out.cellAt 2 rfl; have x3 := R3.out.cellAt 3 rfl; have xl := R3.out.lt)
    | (go_at_call 12; refine (HCo.out _ HB3.out).mono ?_; rintro e w4 ⟨A4, c4, rfl, hi4, hb⟩; have HI4 := Lib.hid hi4; clear hi4; have R4 := Lib.hid (R3.out.past hb); have HB4 := Lib.hid (pt HB3.out hb); clear hb x0 x1 x2 x3 xl; have x0 := R4.out.cellAt 0 rfl; have x1 := R4.out.cellAt 1 rfl; have x2 := R4.out.cellAt 2 rfl; have x3 := R4.out.cellAt 3 rfl; have xl := R4.out.lt)
    | (go_at_call 11; refine (HBs.out _ _ _ HI4.out).mono ?_; rintro e w5 ⟨A5, c5, rfl, hi5, hc5, hb⟩; have HI5 := Lib.hid hi5; clear hi5 hc5; have R5 := Lib.hid (R4.out.past hb); have HB5 := Lib.hid (pt HB4.out hb); clear hb x0 x1 x2 x3 xl; have x0 := R5.out.cellAt 0 rfl; have x1 := R5.out.cellAt 1 rfl; have x2 := R5.out.cellAt 2 rfl; have x3 := R5.out.cellAt 3 rfl; have xl := R5.out.lt)
    | (go_at_call 12; refine (HCo.out _ HB5.out).mono ?_; rintro e w6 ⟨A6, c6, rfl, hi6, hb⟩; have HI6 := Lib.hid hi6; have HI56 := Lib.hid ((HI5.out.below hb).more hb.size); clear hi6; have R6 := Lib.hid (R5.out.past hb); have HB6 := Lib.hid (pt HB5.out hb); clear hb x0 x1 x2 x3 xl; have x0 := R6.out.cellAt 0 rfl; have x1 := R6.out.cellAt 1 rfl; have x2 := R6.out.cellAt 2 rfl; have x3 := R6.out.cellAt 3 rfl; have xl := R6.out.lt)
    | (go_at_call 13; refine (HAr.out _ _ _ HI6.out).mono ?_; rintro e w7 ⟨rfl, hb⟩; have HI7 := Lib.hid ((HI56.out.below hb).more hb.size); have R7 := Lib.hid (R6.out.past hb); have HB7 := Lib.hid (pt HB6.out hb); clear hb x0 x1 x2 x3 xl; have x0 := R7.out.cellAt 0 rfl; have x1 := R7.out.cellAt 1 rfl; have x2 := R7.out.cellAt 2 rfl; have x3 := R7.out.cellAt 3 rfl; have xl := R7.out.lt)
    | (go_at_call 8; refine (refWithin_any _ _ _ _).mono ?_; rintro e w' ⟨rfl, rfl⟩))
  have HSn := Lib.hid hM
  have HMb := Lib.hid (show m ≤ 7 by omega)
  clear HSh HWe HWi HCo HBs HAr hz1 hz2 hz3 hS2
  rename ¬ n < m => hnm
  clear hnm
  go_loopw [12, 13] (fun hv iv wr => ∃ (k : Nat) (A2 : Option Addr) (c2 : Nat), iv = .int .i64 (k : Int) ∧ k ≤ m ∧ hv = .slice A2 k c2 ∧ wr.ownsRow w7.heap.size 3 1 (.slice A2 k c2) k (((S.take k).map (hgt d)).map (Value.int .i64)) ∧ Below w7.heap.size w7 wr) (fun _ iv _ => m - (intOf iv).toNat)
  case atStart => exact ⟨0, none, 0, rfl, Nat.zero_le _, rfl, World.ownsRow_nil _ _ _ _, Below.refl _ _⟩
  case round =>
    obtain ⟨k, A2, c2, rfl, hk, rfl, hown, hab⟩ := hrel
    have HO := Lib.hid hown
    have HA := Lib.hid hab
    clear hown hab x0 x1 x2 x3 xl
    by_cases hlt : k < m
    · have hlt' : k < S.length := by omega
      obtain ⟨b5, o5, rfl, hb5, hc5⟩ := (HI7.out.below HA.out).at_ hlt'
      have cc := hc5 k hlt'
      have hm2 := HS.out.mem _ (show S.getD k 0 ∈ S by simp [List.getD, hlt'])
      have hgs := hgt_spec (d := d) (w := S.getD k 0) (by omega) hm2.2
      have hgl := hgt_lt hm2.1 hm2.2
      have HH := Lib.hid (HHe2.out (S.getD k 0) hm2)
      have HTk := Lib.hid (show (S.take (k + 1)).map (hgt d) = (S.take k).map (hgt d) ++ [hgt d (S.getD k 0)] by rw [take_snoc0 hlt', List.map_append]; rfl)
      clear hc5
      generalize S.getD k 0 = s at *
      generalize hgt d s = h at *
      have hsq1 := sq_bd (n := h) (m := 200) hgs.1 (by omega)
      have hsq2 := sq_bd (n := s) (m := 200) (by omega) (by omega)
      have hsq3 := sq_bd (n := d) (m := 200) (by omega) (by omega)
      have q1 : wrap64 (h * h) = h * h := w64 (by omega)
      have q2 : wrap64 (s * s) = s * s := w64 (by omega)
      have q3 : wrap64 (d * d) = d * d := w64 (by omega)
      have q4 : wrap64 (h * h + s * s) = h * h + s * s := w64 (by omega)
      have q5 : ¬ d * d < h * h + s * s := by omega
      have q6 : withinB h 0 d = true := by simp only [withinB, Bool.and_eq_true, decide_eq_true_eq]; omega
      have hbw : b5 < wr.heap.size := Nat.lt_of_lt_of_le hb5 HA.out.size
      have hmx : k + 1 ≤ maxLen := by have := HMb.out; simp only [maxLen]; omega
      have k0 : (0 : Int) ≤ (k : Int) := by omega
      have k1 : (k : Int) < (m : Int) := by omega
      have hm2v := hm2.1
      clear hgs hgl hm2
      go_wp2_with (first
        | (go_at_call 14; refine (HH.out _).mono ?_; rintro e w8 ⟨rfl, hb⟩; have HB8 := Lib.hid (pt HA.out hb); have c8 := (World.cell?_of_block (hb.block b5 hbw)).trans cc; have HO8 := Lib.hid (own_past hb HO.out); have hbw8 := Nat.lt_of_lt_of_le hbw hb.size; clear hb cc))
      have vh : IntKind.i64.wrap (h * h) = h * h := IntWalk.i64_in _ (by omega)
      have vs : IntKind.i64.wrap (s * s) = s * s := IntWalk.i64_in _ (by omega)
      have vd : IntKind.i64.wrap (d * d) = d * d := IntWalk.i64_in _ (by omega)
      have vt : IntKind.i64.wrap (h * h + s * s) = h * h + s * s := IntWalk.i64_in _ (by omega)
      have vf : (decide (d * d < h * h + s * s)) = false := decide_eq_false (by omega)
      have HSS := Lib.hid (show ∀ W, Below w8.heap.size w8 W → W.cell? ⟨b5, o5 + k, none⟩ = some (.int .i64 s) ∧ True from fun W hW => ⟨(World.cell?_of_block (hW.block b5 hbw8)).trans c8, trivial⟩)
      refine wp_region_G 26 follows_mixed (fun W => W.cell? ⟨b5, o5 + k, none⟩ = some (.int .i64 s) ∧ True) (HSS.out _ (pd pr)) ?_
      intro hSd inv
      have HSd := Lib.hid hSd
      clear hSd
      refine wpAnyG_take (i := 0) (v := ?_) rfl (by kernel_rfl) (by kernel_rfl) (by kernel_rfl) (by kernel_rfl) (by kernel_rfl) (by decide) (by decide) inv (fun _ _ _ h => h) (Or.inl ⟨by rfl, ?_⟩) HSd.out ?_; rotate_left; (focus (intro W y1; obtain ⟨y1, y2⟩ := y1; go_simp; (first | done | with_reducible rfl | (simp only [vh, vs, vd, vt, q1, q2, q3, q4, vf]; done) | (simp [vh, vs, vd, vt, q1, q2, q3, q4, vf]; done)))); clear inv; intro inv; simp only [List.getElem_toArray, List.getElem_cons_zero, Act.put, List.setIfInBounds_toArray, List.set_cons_zero, List.set_cons_succ]
      refine wpAnyG_take (i := 1) (v := ?_) rfl (by kernel_rfl) (by kernel_rfl) (by kernel_rfl) (by kernel_rfl) (by kernel_rfl) (by decide) (by decide) inv (fun _ _ _ h => h) (Or.inl ⟨by rfl, ?_⟩) HSd.out ?_; rotate_left; (focus (intro W y1; obtain ⟨y1, y2⟩ := y1; go_simp; (first | done | with_reducible rfl | (simp only [vh, vs, vd, vt, q1, q2, q3, q4, vf]; done) | (simp [vh, vs, vd, vt, q1, q2, q3, q4, vf]; done)))); clear inv; intro inv; simp only [List.getElem_toArray, List.getElem_cons_zero, List.getElem_cons_succ, Act.put, List.setIfInBounds_toArray, List.set_cons_zero, List.set_cons_succ]
      refine wpAnyG_take (i := 2) (v := ?_) rfl (by kernel_rfl) (by kernel_rfl) (by kernel_rfl) (by kernel_rfl) (by kernel_rfl) (by decide) (by decide) inv (fun _ _ _ h => h) (Or.inl ⟨by rfl, ?_⟩) HSd.out ?_; rotate_left; (focus (intro W y1; obtain ⟨y1, y2⟩ := y1; go_simp; (first | done | with_reducible rfl | (simp only [vh, vs, vd, vt, q1, q2, q3, q4, vf]; done) | (simp [vh, vs, vd, vt, q1, q2, q3, q4, vf]; done)))); clear inv; intro inv; simp only [List.getElem_toArray, List.getElem_cons_zero, List.getElem_cons_succ, Act.put, List.setIfInBounds_toArray, List.set_cons_zero, List.set_cons_succ]
      refine wpAnyG_take (i := 3) (v := ?_) rfl (by kernel_rfl) (by kernel_rfl) (by kernel_rfl) (by kernel_rfl) (by kernel_rfl) (by decide) (by decide) inv (fun _ _ _ h => h) (Or.inl ⟨by rfl, ?_⟩) HSd.out ?_; rotate_left; (focus (intro W y1; obtain ⟨y1, y2⟩ := y1; go_simp; (first | done | with_reducible rfl | (simp only [vh, vs, vd, vt, q1, q2, q3, q4, vf]; done) | (simp [vh, vs, vd, vt, q1, q2, q3, q4, vf]; done)))); clear inv; intro inv; simp only [List.getElem_toArray, List.getElem_cons_zero, List.getElem_cons_succ, Act.put, List.setIfInBounds_toArray, List.set_cons_zero, List.set_cons_succ]
      refine wpAnyG_take (i := 4) (v := ?_) rfl (by kernel_rfl) (by kernel_rfl) (by kernel_rfl) (by kernel_rfl) (by kernel_rfl) (by decide) (by decide) inv (fun _ _ _ h => h) (Or.inl ⟨by rfl, ?_⟩) HSd.out ?_; rotate_left; (focus (intro W y1; obtain ⟨y1, y2⟩ := y1; go_simp; (first | done | with_reducible rfl | (simp only [vh, vs, vd, vt, q1, q2, q3, q4, vf]; done) | (simp [vh, vs, vd, vt, q1, q2, q3, q4, vf]; done)))); clear inv; intro inv; simp only [List.getElem_toArray, List.getElem_cons_zero, List.getElem_cons_succ, Act.put, List.setIfInBounds_toArray, List.set_cons_zero, List.set_cons_succ]
      refine wpAnyG_take (i := 5) (v := .int .i64 (h * h)) rfl (by kernel_rfl) (by kernel_rfl) (by kernel_rfl) (by kernel_rfl) (by kernel_rfl) (by decide) (by decide) inv (fun _ _ _ h => h) (Or.inl ⟨by rfl, ?_⟩) HSd.out ?_; (focus (intro W y1; obtain ⟨y1, y2⟩ := y1; go_simp; (first | done | with_reducible rfl | (simp only [vh, vs, vd, vt, q1, q2, q3, q4, vf]; done) | (simp [vh, vs, vd, vt, q1, q2, q3, q4, vf]; done)))); clear inv; intro inv; simp only [List.getElem_toArray, List.getElem_cons_zero, List.getElem_cons_succ, Act.put, List.setIfInBounds_toArray, List.set_cons_zero, List.set_cons_succ]
      refine wpAnyG_take (i := 6) (v := ?_) rfl (by kernel_rfl) (by kernel_rfl) (by kernel_rfl) (by kernel_rfl) (by kernel_rfl) (by decide) (by decide) inv (fun _ _ _ h => h) (Or.inl ⟨by rfl, ?_⟩) HSd.out ?_; rotate_left; (focus (intro W y1; obtain ⟨y1, y2⟩ := y1; go_simp; (first | done | with_reducible rfl | (simp only [vh, vs, vd, vt, q1, q2, q3, q4, vf]; done) | (simp [vh, vs, vd, vt, q1, q2, q3, q4, vf]; done)))); clear inv; intro inv; simp only [List.getElem_toArray, List.getElem_cons_zero, List.getElem_cons_succ, Act.put, List.setIfInBounds_toArray, List.set_cons_zero, List.set_cons_succ]
      refine wpAnyG_take (i := 7) (v := ?_) rfl (by kernel_rfl) (by kernel_rfl) (by kernel_rfl) (by kernel_rfl) (by kernel_rfl) (by decide) (by decide) inv (fun _ _ _ h => h) (Or.inl ⟨by rfl, ?_⟩) HSd.out ?_; rotate_left; (focus (intro W y1; obtain ⟨y1, y2⟩ := y1; go_simp; (first | done | with_reducible rfl | (simp only [vh, vs, vd, vt, q1, q2, q3, q4, vf]; done) | (simp [vh, vs, vd, vt, q1, q2, q3, q4, vf]; done)))); clear inv; intro inv; simp only [List.getElem_toArray, List.getElem_cons_zero, List.getElem_cons_succ, Act.put, List.setIfInBounds_toArray, List.set_cons_zero, List.set_cons_succ]
      refine wpAnyG_take (i := 8) (v := ?_) rfl (by kernel_rfl) (by kernel_rfl) (by kernel_rfl) (by kernel_rfl) (by kernel_rfl) (by decide) (by decide) inv (fun _ _ _ h => h) (Or.inl ⟨by rfl, ?_⟩) HSd.out ?_; rotate_left; (focus (intro W y1; obtain ⟨y1, y2⟩ := y1; go_simp; (first | done | with_reducible rfl | (simp only [vh, vs, vd, vt, q1, q2, q3, q4, vf]; done) | (simp [vh, vs, vd, vt, q1, q2, q3, q4, vf]; done)))); clear inv; intro inv; simp only [List.getElem_toArray, List.getElem_cons_zero, List.getElem_cons_succ, Act.put, List.setIfInBounds_toArray, List.set_cons_zero, List.set_cons_succ]
      refine wpAnyG_take (i := 9) (v := ?_) rfl (by kernel_rfl) (by kernel_rfl) (by kernel_rfl) (by kernel_rfl) (by kernel_rfl) (by decide) (by decide) inv (fun _ _ _ h => h) (Or.inl ⟨by rfl, ?_⟩) HSd.out ?_; rotate_left; (focus (intro W y1; obtain ⟨y1, y2⟩ := y1; go_simp; (first | done | with_reducible rfl | (simp only [vh, vs, vd, vt, q1, q2, q3, q4, vf]; done) | (simp [vh, vs, vd, vt, q1, q2, q3, q4, vf]; done)))); clear inv; intro inv; simp only [List.getElem_toArray, List.getElem_cons_zero, List.getElem_cons_succ, Act.put, List.setIfInBounds_toArray, List.set_cons_zero, List.set_cons_succ]
      refine wpAnyG_take (i := 10) (v := ?_) rfl (by kernel_rfl) (by kernel_rfl) (by kernel_rfl) (by kernel_rfl) (by kernel_rfl) (by decide) (by decide) inv (fun _ _ _ h => h) (Or.inl ⟨by rfl, ?_⟩) HSd.out ?_; rotate_left; (focus (intro W y1; obtain ⟨y1, y2⟩ := y1; go_simp; (first | done | with_reducible rfl | (simp only [vh, vs, vd, vt, q1, q2, q3, q4, vf]; done) | (simp [vh, vs, vd, vt, q1, q2, q3, q4, vf]; done)))); clear inv; intro inv; simp only [List.getElem_toArray, List.getElem_cons_zero, List.getElem_cons_succ, Act.put, List.setIfInBounds_toArray, List.set_cons_zero, List.set_cons_succ]
      refine wpAnyG_take (i := 11) (v := ?_) rfl (by kernel_rfl) (by kernel_rfl) (by kernel_rfl) (by kernel_rfl) (by kernel_rfl) (by decide) (by decide) inv (fun _ _ _ h => h) (Or.inl ⟨by rfl, ?_⟩) HSd.out ?_; rotate_left; (focus (intro W y1; obtain ⟨y1, y2⟩ := y1; go_simp; (first | done | with_reducible rfl | (simp only [vh, vs, vd, vt, q1, q2, q3, q4, vf]; done) | (simp [vh, vs, vd, vt, q1, q2, q3, q4, vf]; done)))); clear inv; intro inv; simp only [List.getElem_toArray, List.getElem_cons_zero, List.getElem_cons_succ, Act.put, List.setIfInBounds_toArray, List.set_cons_zero, List.set_cons_succ]
      refine wpAnyG_take (i := 12) (v := ?_) rfl (by kernel_rfl) (by kernel_rfl) (by kernel_rfl) (by kernel_rfl) (by kernel_rfl) (by decide) (by decide) inv (fun _ _ _ h => h) (Or.inl ⟨by rfl, ?_⟩) HSd.out ?_; rotate_left; (focus (intro W y1; obtain ⟨y1, y2⟩ := y1; go_simp; (first | done | with_reducible rfl | (simp only [vh, vs, vd, vt, q1, q2, q3, q4, vf]; done) | (simp [vh, vs, vd, vt, q1, q2, q3, q4, vf]; done)))); clear inv; intro inv; simp only [List.getElem_toArray, List.getElem_cons_zero, List.getElem_cons_succ, Act.put, List.setIfInBounds_toArray, List.set_cons_zero, List.set_cons_succ]
      refine wpAnyG_take (i := 13) (v := ?_) rfl (by kernel_rfl) (by kernel_rfl) (by kernel_rfl) (by kernel_rfl) (by kernel_rfl) (by decide) (by decide) inv (fun _ _ _ h => h) (Or.inl ⟨by rfl, ?_⟩) HSd.out ?_; rotate_left; (focus (intro W y1; obtain ⟨y1, y2⟩ := y1; go_simp; (first | done | with_reducible rfl | (simp only [vh, vs, vd, vt, q1, q2, q3, q4, vf]; done) | (simp [vh, vs, vd, vt, q1, q2, q3, q4, vf]; done)))); clear inv; intro inv; simp only [List.getElem_toArray, List.getElem_cons_zero, List.getElem_cons_succ, Act.put, List.setIfInBounds_toArray, List.set_cons_zero, List.set_cons_succ]
      refine wpAnyG_take (i := 14) (v := .int .i64 (s * s)) rfl (by kernel_rfl) (by kernel_rfl) (by kernel_rfl) (by kernel_rfl) (by kernel_rfl) (by decide) (by decide) inv (fun _ _ _ h => h) (Or.inl ⟨by rfl, ?_⟩) HSd.out ?_; (focus (intro W y1; obtain ⟨y1, y2⟩ := y1; go_simp; (first | done | with_reducible rfl | (simp only [vh, vs, vd, vt, q1, q2, q3, q4, vf]; done) | (simp [vh, vs, vd, vt, q1, q2, q3, q4, vf]; done)))); clear inv; intro inv; simp only [List.getElem_toArray, List.getElem_cons_zero, List.getElem_cons_succ, Act.put, List.setIfInBounds_toArray, List.set_cons_zero, List.set_cons_succ]
      refine wpAnyG_take (i := 15) (v := .int .i64 (h * h + s * s)) rfl (by kernel_rfl) (by kernel_rfl) (by kernel_rfl) (by kernel_rfl) (by kernel_rfl) (by decide) (by decide) inv (fun _ _ _ h => h) (Or.inl ⟨by rfl, ?_⟩) HSd.out ?_; (focus (intro W y1; obtain ⟨y1, y2⟩ := y1; go_simp; (first | done | with_reducible rfl | (simp only [vh, vs, vd, vt, q1, q2, q3, q4, vf]; done) | (simp [vh, vs, vd, vt, q1, q2, q3, q4, vf]; done)))); clear inv; intro inv; simp only [List.getElem_toArray, List.getElem_cons_zero, List.getElem_cons_succ, Act.put, List.setIfInBounds_toArray, List.set_cons_zero, List.set_cons_succ]
      refine wpAnyG_take (i := 16) (v := ?_) rfl (by kernel_rfl) (by kernel_rfl) (by kernel_rfl) (by kernel_rfl) (by kernel_rfl) (by decide) (by decide) inv (fun _ _ _ h => h) (Or.inl ⟨by rfl, ?_⟩) HSd.out ?_; rotate_left; (focus (intro W y1; obtain ⟨y1, y2⟩ := y1; go_simp; (first | done | with_reducible rfl | (simp only [vh, vs, vd, vt, q1, q2, q3, q4, vf]; done) | (simp [vh, vs, vd, vt, q1, q2, q3, q4, vf]; done)))); clear inv; intro inv; simp only [List.getElem_toArray, List.getElem_cons_zero, List.getElem_cons_succ, Act.put, List.setIfInBounds_toArray, List.set_cons_zero, List.set_cons_succ]
      refine wpAnyG_take (i := 17) (v := ?_) rfl (by kernel_rfl) (by kernel_rfl) (by kernel_rfl) (by kernel_rfl) (by kernel_rfl) (by decide) (by decide) inv (fun _ _ _ h => h) (Or.inl ⟨by rfl, ?_⟩) HSd.out ?_; rotate_left; (focus (intro W y1; obtain ⟨y1, y2⟩ := y1; go_simp; (first | done | with_reducible rfl | (simp only [vh, vs, vd, vt, q1, q2, q3, q4, vf]; done) | (simp [vh, vs, vd, vt, q1, q2, q3, q4, vf]; done)))); clear inv; intro inv; simp only [List.getElem_toArray, List.getElem_cons_zero, List.getElem_cons_succ, Act.put, List.setIfInBounds_toArray, List.set_cons_zero, List.set_cons_succ]
      refine wpAnyG_take (i := 18) (v := .int .i64 (d * d)) rfl (by kernel_rfl) (by kernel_rfl) (by kernel_rfl) (by kernel_rfl) (by kernel_rfl) (by decide) (by decide) inv (fun _ _ _ h => h) (Or.inl ⟨by rfl, ?_⟩) HSd.out ?_; (focus (intro W y1; obtain ⟨y1, y2⟩ := y1; go_simp; (first | done | with_reducible rfl | (simp only [vh, vs, vd, vt, q1, q2, q3, q4, vf]; done) | (simp [vh, vs, vd, vt, q1, q2, q3, q4, vf]; done)))); clear inv; intro inv; simp only [List.getElem_toArray, List.getElem_cons_zero, List.getElem_cons_succ, Act.put, List.setIfInBounds_toArray, List.set_cons_zero, List.set_cons_succ]
      refine wpAnyG_take (i := 19) (v := .bool false) rfl (by kernel_rfl) (by kernel_rfl) (by kernel_rfl) (by kernel_rfl) (by kernel_rfl) (by decide) (by decide) inv (fun _ _ _ h => h) (Or.inl ⟨by rfl, ?_⟩) HSd.out ?_; (focus (intro W y1; obtain ⟨y1, y2⟩ := y1; go_simp; (first | done | with_reducible rfl | (simp only [vh, vs, vd, vt, q1, q2, q3, q4, vf]; done) | (simp [vh, vs, vd, vt, q1, q2, q3, q4, vf]; done)))); clear inv; intro inv; simp only [List.getElem_toArray, List.getElem_cons_zero, List.getElem_cons_succ, Act.put, List.setIfInBounds_toArray, List.set_cons_zero, List.set_cons_succ]
      refine wpAnyG_take (i := 20) (v := ?_) rfl (by kernel_rfl) (by kernel_rfl) (by kernel_rfl) (by kernel_rfl) (by kernel_rfl) (by decide) (by decide) inv (fun _ _ _ h => h) (Or.inl ⟨by rfl, ?_⟩) HSd.out ?_; rotate_left; (focus (intro W y1; obtain ⟨y1, y2⟩ := y1; go_simp; (first | done | with_reducible rfl | (simp only [vh, vs, vd, vt, q1, q2, q3, q4, vf]; done) | (simp [vh, vs, vd, vt, q1, q2, q3, q4, vf]; done)))); clear inv; intro inv; simp only [List.getElem_toArray, List.getElem_cons_zero, List.getElem_cons_succ, Act.put, List.setIfInBounds_toArray, List.set_cons_zero, List.set_cons_succ]
      refine wpAnyG_take (i := 21) (v := ?_) rfl (by kernel_rfl) (by kernel_rfl) (by kernel_rfl) (by kernel_rfl) (by kernel_rfl) (by decide) (by decide) inv (fun _ _ _ h => h) (Or.inl ⟨by rfl, ?_⟩) HSd.out ?_; rotate_left; (focus (intro W y1; obtain ⟨y1, y2⟩ := y1; go_simp; (first | done | with_reducible rfl | (simp only [vh, vs, vd, vt, q1, q2, q3, q4, vf]; done) | (simp [vh, vs, vd, vt, q1, q2, q3, q4, vf]; done)))); clear inv; intro inv; simp only [List.getElem_toArray, List.getElem_cons_zero, List.getElem_cons_succ, Act.put, List.setIfInBounds_toArray, List.set_cons_zero, List.set_cons_succ]
      refine wpAnyG_take (i := 22) (v := ?_) rfl (by kernel_rfl) (by kernel_rfl) (by kernel_rfl) (by kernel_rfl) (by kernel_rfl) (by decide) (by decide) inv (fun _ _ _ h => h) (Or.inl ⟨by rfl, ?_⟩) HSd.out ?_; rotate_left; (focus (intro W y1; obtain ⟨y1, y2⟩ := y1; go_simp; (first | done | with_reducible rfl | (simp only [vh, vs, vd, vt, q1, q2, q3, q4, vf]; done) | (simp [vh, vs, vd, vt, q1, q2, q3, q4, vf]; done)))); clear inv; intro inv; simp only [List.getElem_toArray, List.getElem_cons_zero, List.getElem_cons_succ, Act.put, List.setIfInBounds_toArray, List.set_cons_zero, List.set_cons_succ]
      refine wpAnyG_take (i := 23) (v := ?_) rfl (by kernel_rfl) (by kernel_rfl) (by kernel_rfl) (by kernel_rfl) (by kernel_rfl) (by decide) (by decide) inv (fun _ _ _ h => h) (Or.inl ⟨by rfl, ?_⟩) HSd.out ?_; rotate_left; (focus (intro W y1; obtain ⟨y1, y2⟩ := y1; go_simp; (first | done | with_reducible rfl | (simp only [vh, vs, vd, vt, q1, q2, q3, q4, vf]; done) | (simp [vh, vs, vd, vt, q1, q2, q3, q4, vf]; done)))); clear inv; intro inv; simp only [List.getElem_toArray, List.getElem_cons_zero, List.getElem_cons_succ, Act.put, List.setIfInBounds_toArray, List.set_cons_zero, List.set_cons_succ]
      clear inv
      refine wpAnyG_oneW (i := 24) (by kernel_rfl) rfl (by rfl) fun K hK => ?_
      go_simp
      go_at_call 8; refine (refWithin_any _ _ _ _).mono ?_; rintro e w' ⟨rfl, rfl⟩
      rw [q6]
      refine hK.out _ _ (fun _ => HSd.out) ?_
      clear hK K
      refine wpAnyG_oneW (i := 25) (by kernel_rfl) rfl (by rfl) fun K hK => ?_
      go_simp
      refine hK.out _ _ (fun _ => HSd.out) ?_
      clear hK K
      refine wpAnyG_oneW (i := 26) (by kernel_rfl) rfl (by rfl) fun K hK => ?_
      go_simp
      refine hK.out _ _ (fun h => absurd h (by decide)) ?_
      clear hK K
      refine wpAnyG_done (by kernel_rfl) ?_
      clear HSS HSd
      have HO8d := Lib.hid (own_past (pd pr) HO8.out)
      have HB8d := Lib.hid (pd HB8.out)
      generalize w8.drew = wz at *
      have hz8 := HB8d.out.size
      have hk7 := Nat.le_trans hk HMb.out
      go_wp2_with (at_builtin; refine wpList_append_cells _ rfl (.tmp 129) (.tmp 131) _ rfl w7.heap.size 3 i0 _ 1 8 Tryd.underlying22 hi0 hz0 hz01 hz02 rfl (by omega) _ k _ rfl (HO8d.out.alloc _) (wz.heap.size + 1) (some ⟨wz.heap.size, 0, none⟩) 1 1 [.int .i64 h] rfl (cellsIn_one _ _ _) rfl (by simp [Value.oneCell']) hmx (by omega) (by simp; omega) ?_; intro v9 w9 hown9 hg9 _; obtain ⟨A9, c9, rfl, hc9, hm9⟩ := own_form hown9; have HO9 := Lib.hid hown9; have HB9 := Lib.hid (pg (pa HB8d.out) (HO8d.out.alloc _) (Nat.le_refl _) hg9); clear hown9 hg9)
      go_roundw
      case rel => exact ⟨k + 1, A9, c9, by go_num, by omega, rfl, by rw [HTk.out, List.map_append]; exact HO9.out, HB9.out⟩
      case measure => simp [intOf]; omega
    · have hkm : k = m := by omega
      subst hkm
      have hk7 := HMb.out
      have ht : S.take k = S := List.take_of_length_le (by omega)
      rw [ht] at HO
      have HQ := Lib.hid (pt HB7.out HA.out)
      have R9 := Lib.hid (R7.out.past HA.out)
      have HI9 := Lib.hid ((HI7.out.below HA.out).more HA.out.size)
      have HH9 := Lib.hid (intsIn_of_own HO.out)
      clear HO HA HI7 R7 ht
      obtain ⟨dd, rfl⟩ : ∃ dd : Nat, d = (dd : Int) := ⟨d.toNat, by omega⟩
      have hlm : (S.map (hgt dd)).length = k := by rw [List.length_map]; exact HSn.out
      have HLm := Lib.hid hlm
      go_wp2
      go_loop [16, 17] (fun sv rv => ∃ r : Nat, rv = .int .i64 ((r : Int) + 1) ∧ r ≤ dd ∧ sv = .int .i64 (rowsF dd S 0 r)) (fun _ rv => dd + 1 - (intOf rv).toNat)
      case atStart => exact ⟨0, rfl, Nat.zero_le _, rfl⟩
      case round =>
        obtain ⟨r, rfl, hrd, rfl⟩ := hrel
        have hsb := rowsF_bd hd.1 HS.out r
        by_cases hlr : r < dd
        · have HStep := Lib.hid (show rowsF dd S 0 (r + 1) = rowsF dd S 0 r + wideK dd ((r : Int) + 1) 0 S by rw [wide_row HS.out, rowsF, Int.zero_add])
          have hwb := rowW_bd hd.1 HS.out ((r : Int) + 1)
          rw [← wide_row HS.out] at hwb
          have hmr : (dd : Int) * (r : Int) ≤ 40000 := by
            have := Int.mul_le_mul (a := (dd : Int)) (b := (r : Int)) (c := 200) (d := 200) (by omega) (by omega) (by omega) (by omega)
            omega
          have hsb2 : 0 ≤ rowsF dd S 0 r ∧ rowsF dd S 0 r ≤ 40000 := by omega
          clear hsb hmr
          generalize rowsF dd S 0 r = sm at *
          go_wp2
          go_loop [18, 19] (fun wv iv => ∃ i : Nat, iv = .int .i64 (i : Int) ∧ i ≤ k ∧ wv = .int .i64 (wideK dd ((r : Int) + 1) 0 (S.take i))) (fun _ iv => k - (intOf iv).toNat)
          case atStart => exact ⟨0, rfl, Nat.zero_le _, rfl⟩
          case round =>
            obtain ⟨i, rfl, hik, rfl⟩ := hrel
            by_cases hli : i < k
            · have hiS : i < S.length := by have := HSn.out; omega
              obtain ⟨b5, o5, hA5, hb5, hc5⟩ := HI9.out.at_ hiS
              obtain ⟨b6, o6, hA6, hb6, hc6⟩ := HH9.out.at_ (k := i) (by have := HLm.out; omega)
              have c5' := hc5 i hiS
              have c6' := hc6 i (by have := HLm.out; omega)
              rw [show (S.map (hgt dd)).getD i 0 = hgt dd (S.getD i 0) by simp [List.getD, hiS]] at c6'
              have HTk := Lib.hid (show wideK dd ((r : Int) + 1) 0 (S.take (i + 1)) = _ by rw [take_snoc0 hiS, wideK_snoc])
              subst hA5
              subst hA6
              clear hc5 hc6
              generalize wideK dd ((r : Int) + 1) 0 (S.take i) = wk at *
              generalize wideK dd ((r : Int) + 1) 0 S = wall at *
              generalize S.getD i 0 = s at *
              generalize hgt dd s = h at *
              have z0 : (0 : Int) ≤ (i : Int) := by omega
              have z1 : (i : Int) < (k : Int) := by omega
              by_cases hhr : (r : Int) + 1 ≤ h
              · go_wp2_with (at_builtin; go_simp; rw [min2_max])
                go_round
                case rel => exact ⟨i + 1, by go_num, by omega, by rw [HTk.out, if_pos hhr]⟩
                case measure => simp [intOf]; omega
              · go_wp2
                go_round
                case rel => exact ⟨i + 1, by go_num, by omega, by rw [HTk.out, if_neg hhr]⟩
                case measure => simp [intOf]; omega
            · have hik2 : i = k := by omega
              subst hik2
              rw [show S.take i = S from List.take_of_length_le (by have := HSn.out; omega)]
              generalize wideK dd ((r : Int) + 1) 0 S = wall at *
              have q1 : wrap64 (sm + wall) = sm + wall := w64 (by omega)
              go_wp2
              go_round
              case rel => exact ⟨r + 1, by go_num, by omega, by rw [HStep.out]⟩
              case measure => simp [intOf]; omega
        · have hrd2 : r = dd := by omega
          subst hrd2
          rw [← area_all HS.out rfl, HSA.out]
          have x0 := R9.out.cellAt 0 rfl; have x1 := R9.out.cellAt 1 rfl; have x2 := R9.out.cellAt 2 rfl; have x3 := R9.out.cellAt 3 rfl; have xl := R9.out.lt
          have t1 : wrap64 (cd + g) = cd + g := w64 (by omega)
          have hpr := Int.mul_le_mul (a := (dn : Int)) (b := cd + g) (c := 500) (d := 2000) (by omega) (by omega) (by omega) (by omega)
          have hpr0 : 0 ≤ (dn : Int) * (cd + g) := Int.mul_nonneg (by omega) (by omega)
          have t2 : wrap64 ((dn : Int) * (cd + g)) = (dn : Int) * (cd + g) := w64 (by omega)
          have t3 : wrap64 ((dn : Int) * (cd + g) - g) = (dn : Int) * (cd + g) - g := w64 (by omega)
          have HDA := Lib.hid (discs_all (t := t) (n := dn) (by omega))
          have HDb := Lib.hid (fun k hk => discs_bd (t := t) (d := (dn : Int)) hwi.2.1.1 (by omega) hwi.1.2 k hk)
          have hdn : dn ≤ 500 := by omega
          clear HI9 HH9 HLm HSn hsb hpr hpr0 hi hrd hlr
          go_wp2_with (first
            | (go_at_call 15; refine (HDi.out _).mono ?_; rintro e wa ⟨gb, rfl, hbk, hgb, hb⟩; have HDK := Lib.hid hbk; have Ra := Lib.hid (R9.out.past hb); have HQa := Lib.hid (pt HQ.out hb); clear hbk hgb hb x0 x1 x2 x3 xl; have x0 := Ra.out.cellAt 0 rfl; have x1 := Ra.out.cellAt 1 rfl; have x2 := Ra.out.cellAt 2 rfl; have x3 := Ra.out.cellAt 3 rfl; have xl := Ra.out.lt)
            | (go_at_call 16; refine (HLe.out _).mono ?_; rintro e wb ⟨rfl, hb⟩; have HDL := Lib.hid (show IntBlk wb gb _ from Blk.past HDK.out hb); have Rb := Lib.hid (Ra.out.past hb); have HQb := Lib.hid (pt HQa.out hb); clear hb x0 x1 x2 x3 xl; have x0 := Rb.out.cellAt 0 rfl; have x1 := Rb.out.cellAt 1 rfl; have x2 := Rb.out.cellAt 2 rfl; have x3 := Rb.out.cellAt 3 rfl; have xl := Rb.out.lt))
          clear HDi HLe t1 t2 t3 HDK
          go_loop [24, 25] (fun sv iv => ∃ i : Nat, iv = .int .i64 (i : Int) ∧ i ≤ dn ∧ sv = .int .i64 (discsL t (dn : Int) i).sum) (fun _ iv => dn - (intOf iv).toNat)
          case atStart => exact ⟨0, rfl, Nat.zero_le _, rfl⟩
          case round =>
            obtain ⟨i, rfl, hid, rfl⟩ := hrel
            by_cases hli : i < dn
            · have cc := HDL.out.cell (j := i) (by rw [discs_len]; exact hli)
              rw [discs_at hli] at cc
              have hbd := HDb.out i (by omega)
              have HSt := Lib.hid (show (discsL t (dn : Int) (i + 1)).sum = (discsL t (dn : Int) i).sum + discV t (dn : Int) i by rw [discs_snoc, List.sum_append]; simp)
              have hgl := Blk.lt HDL.out
              generalize (discsL t (dn : Int) i).sum = sm at *
              generalize discV t (dn : Int) i = v at *
              have q1 : wrap64 (sm + v) = sm + v := w64 (by omega)
              have z0 : (0 : Int) ≤ (i : Int) := by omega
              have z1 : (i : Int) < (dn : Int) := by omega
              go_wp2
              go_round
              case rel => exact ⟨i + 1, by go_num, by omega, by rw [HSt.out]⟩
              case measure => simp [intOf]; omega
            · have hie : i = dn := by omega
              subst hie
              rw [HDA.out]
              go_wp2
              go_ret
              exact ⟨ret_bool (by simp), HQb.out⟩
end Go.Proofs.YtabbehmodmmgoaaDoor
end

section
namespace Go.Proofs.YtabbehmodmmgoaaDoor
open Go.RowKit

theorem topDesignCore_any (B : Nat) (d : Int) (ws : List Int) (A : Option Addr) (n c : Nat) (t dn cd g : Int) (w : World) (hU : UnitIn w) (hr : IntsIn B w A ws) (hB : B ≤ w.heap.size) (hn : ws.length = n) :
    Calls Tryd.prog 3 #[.int .i64 d, .slice A n c, .agg #[.int .i64 t, .int .i64 dn, .int .i64 cd, .int .i64 g]] w fun e w' => e = .returned (.bool true) ∧ Below w.heap.size w w' := by
  cases h0 : withinB d 1 200 with
  | false => exact top_far B d ws A n c t dn cd g w hU hr hB hn h0
  | true =>
    by_cases hz : n = 0
    · exact top_none B d ws A n c t dn cd g w hU hr hB hn h0 hz
    by_cases h7 : n ≤ 7
    · by_cases he : wE d ws = 0
      · by_cases hi : windE t dn cd g = 0
        · exact top_main B d ws A n c t dn cd g w hU hr hB hn h0 hz h7 he hi
        · exact top_odd B d ws A n c t dn cd g w hU hr hB hn h0 hz h7 he hi
      · exact top_bad B d ws A n c t dn cd g w hU hr hB hn h0 hz h7 he
    · exact top_many B d ws A n c t dn cd g w hU hr hB hn h0 hz (by omega)

end Go.Proofs.YtabbehmodmmgoaaDoor
end
