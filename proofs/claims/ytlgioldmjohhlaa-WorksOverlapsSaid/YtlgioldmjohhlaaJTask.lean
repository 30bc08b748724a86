/- Contract: the error of a task alone. -/
import Derived.Test.YtlgioldmjohhlaaIPlan
namespace Go.Proofs.Ytlgioldmjohhlaa
open Go.RowKit

theorem first2' (b c : Nat) (x y : Int) (w : World) (h0 : w.cell? ⟨b, 0, none⟩ = some (.int .i64 x)) (h1 : w.cell? ⟨b, 1, none⟩ = some (.int .i64 y)) (v : Int) (hv : firstV [x, y] = v) :
    Calls Try.prog 86 #[.slice (some ⟨b, 0, none⟩) 2 c] w fun e w' => e = .returned (.int .i64 v) ∧ w = w' := hv ▸ first2 b c x y w h0 h1

theorem afterErr_in {xs : List Int} {k : Nat} (h : afterErr xs k = 0) : 0 ≤ xs.getD k 0 ∧ xs.getD k 0 ≤ 6 := by
  have h1 := (unless_ne (by decide)).1 (firstV_zero.1 h).1
  simp only [withinB, Bool.and_eq_true, decide_eq_true_eq] at h1
  exact h1

set_option maxHeartbeats 1000000 in
set_option maxRecDepth 100000 in
theorem taskErr_any (B : Nat) (t : Task) (A : Option Addr) (n c : Nat) (w : World) (hn : t.after.length = n) (hr : IntsIn B w A t.after) (hB : B ≤ w.heap.size) (hm : n ≤ 1000) :
    Calls Try.prog 143 #[.agg #[.int .i64 t.machine, .int .i64 t.length, .int .i64 t.release, .slice A n c]] w fun e w' => e = .returned (.int .i64 (taskE t)) ∧ Below w.heap.size w w' := by
  obtain ⟨m, l, r, xs⟩ := t
  dsimp only at *
  have HT := Lib.hid (show taskE ⟨m, l, r, xs⟩ = if taskE1 ⟨m, l, r, xs⟩ ≠ 0 then taskE1 ⟨m, l, r, xs⟩ else (scan (afterErr xs) xs.length 0).2 from rfl)
  have h1 : firstV [unlessV (withinB m 0 3 && withinB l 1 10000 && withinB r 0 10000) 2, unlessV (decide ((n : Int) ≤ 7)) 8] = taskE1 ⟨m, l, r, xs⟩ := by rw [← hn]; rfl
  generalize taskE ⟨m, l, r, xs⟩ = E at *
  generalize taskE1 ⟨m, l, r, xs⟩ = E1 at *
  have hE : E1 = 0 ∨ (E1 == 0) = false := by
    by_cases h : E1 = 0
    · exact .inl h
    · exact .inr (by simpa using h)
  rcases hE with hE | hE
  · subst hE
    have hR := (unless_ne (by decide)).1 (firstV_zero.1 h1).1
    simp only [Bool.and_eq_true] at hR
    obtain ⟨⟨hm1, hl1⟩, hr1⟩ := hR
    have HV := Lib.hid (show firstV [unlessV true 2, unlessV (decide ((n : Int) ≤ 7)) 8] = 0 by rw [hm1, hl1, hr1] at h1; exact h1)
    have HN := Lib.hid hn
    have HR := Lib.hid hr
    clear hn hr h1
    go_enter Try.func143, Try.ntmps143
    go_wp2_with (go_at_call 88; refine (within_any _ _ _ _).mono ?_; rintro e w' ⟨rfl, rfl⟩)
    refine region_below 7 follows_mixed (by kernel_rfl) ?_
    intro C hC
    simp only [List.take_succ_cons, List.take_zero, List.drop_succ_cons, List.drop_zero]
    repeat (first
      | ((with_reducible refine quiet_plain rfl (fun K hK => ?_)); (focus (apply quiet_val; (focus (intro w' hw; obtain ⟨hcq, hfq⟩ := bcell ((hC.out _).1 hw); go_simp; (first | done | rfl | (with_reducible exact call_same hw (unless_any _ _ _))))); (simp only [Act.put, List.setIfInBounds_toArray, List.set_cons_succ, List.set_cons_zero]); (with_reducible refine hK _ ?_); clear hK K)))
      | ((with_reducible refine quiet_skip ?_ ?_); (focus (simp [Region.wanted, yielded]; done)); simp only [Act.put, List.setIfInBounds_toArray, List.set_cons_succ, List.set_cons_zero])
      | ((with_reducible refine quiet_go ?_ (fun K hK => ?_)); (focus (simp [Region.wanted, yielded]; done)); (focus (apply quiet_val; (focus (intro w' hw; obtain ⟨hcq, hfq⟩ := bcell ((hC.out _).1 hw); go_simp; (first | done | rfl | (with_reducible exact call_same hw (unless_any _ _ _))))); (simp only [Act.put, List.setIfInBounds_toArray, List.set_cons_succ, List.set_cons_zero]); (with_reducible refine hK _ ?_); clear hK K))))
    refine wpQuiet_nil ?_
    intro w1 hb1
    replace hb1 := (hC.out _).1 hb1
    clear hC C
    obtain ⟨hc1, hf1⟩ := bcell hb1
    have r0 : Blk w1 w.heap.size 101 #[.int .i64 m, .int .i64 l, .int .i64 r, .slice A n c] := (Blk.newAt rfl).past hb1
    have c3 := r0.cellAt 3 rfl
    have z0 := r0.lt
    go_wp2_with (go_at_call 86; refine (first2' _ _ _ _ _ (by first | (go_simp; done) | (go_simp; rfl)) (by first | (go_simp; done) | (go_simp; rfl)) _ HV.out).mono ?_; rintro e w' ⟨rfl, rfl⟩)
    have hb2 := pa (o := (Obj.cells #[.int .i64 (unlessV true 2), .int .i64 (unlessV (decide ((n : Int) ≤ 7)) 8)] 29)) (pt (pa (o := (Obj.cells #[.int .i64 m, .int .i64 l, .int .i64 r, .slice A n c] 101)) (Below.refl w.heap.size w)) hb1)
    have HTE := Lib.hid (show E = (scan (afterErr xs) xs.length 0).2 by rw [HT.out]; simp)
    clear HT HV
    go_loopw [36] (fun i wr => ∃ k : Nat, k ≤ n ∧ i = .int .i64 (k : Int) ∧ scan (afterErr xs) xs.length 0 = scan (afterErr xs) xs.length k ∧ Blk wr w.heap.size 101 #[.int .i64 m, .int .i64 l, .int .i64 r, .slice A n c] ∧ Below w.heap.size w wr) (fun i _ => n - (intOf i).toNat)
    case atStart => exact ⟨0, Nat.zero_le _, rfl, rfl, r0.alloc, hb2⟩
    case round =>
      obtain ⟨k, hk, rfl, hf, q0, hq⟩ := hrel
      clear r0 c3 z0 hb1 hb2 hc1 hf1
      have c3 := q0.cellAt 3 rfl
      have z0 := q0.lt
      by_cases hlt : k < n
      · obtain ⟨b, off, hA, hbB, hcell⟩ := (HR.out.below (hq.mono hB)).at_ (k := k) (by rw [HN.out]; exact hlt)
        subst hA
        have hbw := Nat.lt_of_lt_of_le hbB (Nat.le_trans hB hq.size)
        have d0 := hcell k (by rw [HN.out]; exact hlt)
        have HF := Lib.hid (hf.trans (scan_step (by rw [HN.out]; exact hlt)))
        have HE := Lib.hid (show afterErr xs k = firstV [unlessV (withinB (xs.getD k 0) 0 6) 2, unlessV (decide (k = 0) || decide (xs.getD (k - 1) 0 < xs.getD k 0)) 9] from rfl)
        have hF : afterErr xs k = 0 ∨ (afterErr xs k == 0) = false := by
          by_cases h : afterErr xs k = 0
          · exact .inl h
          · exact .inr (by simpa using h)
        have hmore := pa (o := (Obj.cells #[] 29)) hq
        clear hmore hf
        by_cases hk0 : k = 0
        · have hv : firstV [unlessV (withinB (xs.getD k 0) 0 6) 2, unlessV true 9] = afterErr xs k := by rw [HE.out, hk0]; rfl
          have hb : ((k : Int) == 0) = true := by simpa using hk0
          have HV := Lib.hid hv
          clear hv hk0 hcell
          generalize xs.getD k 0 = x at *
          rcases hF with hF | hF
          · have HG := Lib.hid (show scan (afterErr xs) xs.length 0 = scan (afterErr xs) xs.length (k + 1) by rw [HF.out, if_pos hF])
            have HV2 := Lib.hid (HV.out.trans hF)
            clear HV hF HE HF
            have HV := HV2
            clear HV2
            go_wp2_with (first | (go_at_call 88; refine (within_any _ _ _ _).mono ?_; rintro e w' ⟨rfl, rfl⟩) | (go_at_call 87; refine (unless_any _ _ _).mono ?_; rintro e w' ⟨rfl, rfl⟩) | (go_at_call 86; refine (first2' _ _ _ _ _ (by first | (go_simp; done) | (go_simp; rfl)) (by first | (go_simp; done) | (go_simp; rfl)) _ HV.out).mono ?_; rintro e w' ⟨rfl, rfl⟩))
            go_roundw
            case rel => exact ⟨k + 1, by omega, by go_num, HG.out, q0.alloc, pa hq⟩
            case measure => simp [intOf]; omega
          · have HG := Lib.hid (show scan (afterErr xs) xs.length 0 = (k, afterErr xs k) by rw [HF.out, if_neg (by simpa using hF)])
            clear HE HF
            generalize afterErr xs k = F at *
            go_wp2_with (first | (go_at_call 88; refine (within_any _ _ _ _).mono ?_; rintro e w' ⟨rfl, rfl⟩) | (go_at_call 87; refine (unless_any _ _ _).mono ?_; rintro e w' ⟨rfl, rfl⟩) | (go_at_call 86; refine (first2' _ _ _ _ _ (by first | (go_simp; done) | (go_simp; rfl)) (by first | (go_simp; done) | (go_simp; rfl)) _ HV.out).mono ?_; rintro e w' ⟨rfl, rfl⟩))
            go_ret
            exact ⟨ret_int (by rw [HTE.out, HG.out]), pa hq⟩
        · have d1 := hcell (k - 1) (by rw [HN.out]; omega)
          have hv : firstV [unlessV (withinB (xs.getD k 0) 0 6) 2, unlessV (decide (xs.getD (k - 1) 0 < xs.getD k 0)) 9] = afterErr xs k := by rw [HE.out, decide_eq_false hk0, Bool.false_or]
          have hb : ((k : Int) == 0) = false := by simpa using hk0
          have i0 : (0 : Int) ≤ (k : Int) - 1 := by omega
          have i1 : (1 : Int) ≤ (k : Int) := by omega
          have i2 : (k : Int) - 1 < (n : Int) := by omega
          have i3 : ((k : Int) - 1).toNat = k - 1 := by omega
          have HV := Lib.hid hv
          clear hv hk0 hcell
          generalize xs.getD k 0 = x at *
          generalize xs.getD (k - 1) 0 = y at *
          rcases hF with hF | hF
          · have HG := Lib.hid (show scan (afterErr xs) xs.length 0 = scan (afterErr xs) xs.length (k + 1) by rw [HF.out, if_pos hF])
            have HV2 := Lib.hid (HV.out.trans hF)
            clear HV hF HE HF
            have HV := HV2
            clear HV2
            go_wp2_with (first | (go_at_call 88; refine (within_any _ _ _ _).mono ?_; rintro e w' ⟨rfl, rfl⟩) | (go_at_call 87; refine (unless_any _ _ _).mono ?_; rintro e w' ⟨rfl, rfl⟩) | (go_at_call 86; refine (first2' _ _ _ _ _ (by first | (go_simp; done) | (go_simp; rfl)) (by first | (go_simp; done) | (go_simp; rfl)) _ HV.out).mono ?_; rintro e w' ⟨rfl, rfl⟩))
            go_roundw
            case rel => exact ⟨k + 1, by omega, by go_num, HG.out, q0.alloc, pa hq⟩
            case measure => simp [intOf]; omega
          · have HG := Lib.hid (show scan (afterErr xs) xs.length 0 = (k, afterErr xs k) by rw [HF.out, if_neg (by simpa using hF)])
            clear HE HF
            generalize afterErr xs k = F at *
            go_wp2_with (first | (go_at_call 88; refine (within_any _ _ _ _).mono ?_; rintro e w' ⟨rfl, rfl⟩) | (go_at_call 87; refine (unless_any _ _ _).mono ?_; rintro e w' ⟨rfl, rfl⟩) | (go_at_call 86; refine (first2' _ _ _ _ _ (by first | (go_simp; done) | (go_simp; rfl)) (by first | (go_simp; done) | (go_simp; rfl)) _ HV.out).mono ?_; rintro e w' ⟨rfl, rfl⟩))
            go_ret
            exact ⟨ret_int (by rw [HTE.out, HG.out]), pa hq⟩
      · have hkn : k = n := by omega
        have HF := Lib.hid (show scan (afterErr xs) xs.length 0 = (0, 0) by rw [hf]; exact scan_end (by rw [HN.out]; omega))
        clear hkn hf
        go_wp2
        go_ret
        exact ⟨ret_int (by rw [HTE.out, HF.out]), hq⟩
  · have hv : ∃ R : Bool, firstV [unlessV R 2, unlessV (decide ((n : Int) ≤ 7)) 8] = E1 ∧ ((withinB m 0 3 = false ∧ R = false) ∨ (withinB m 0 3 = true ∧ withinB l 1 10000 = false ∧ R = false) ∨ (withinB m 0 3 = true ∧ withinB l 1 10000 = true ∧ R = withinB r 0 10000)) := by
      refine ⟨_, h1, ?_⟩
      cases withinB m 0 3 <;> cases withinB l 1 10000 <;> simp
    have HT2 := Lib.hid (show E = E1 by rw [HT.out, if_pos (by simpa using hE)])
    clear HT h1 hn hr
    obtain ⟨R, hv, hR⟩ := hv
    have HV := Lib.hid hv
    clear hv
    rcases hR with ⟨hm1, rfl⟩ | ⟨hm1, hl1, rfl⟩ | ⟨hm1, hl1, rfl⟩
    all_goals
      go_enter Try.func143, Try.ntmps143
      go_wp2_with (go_at_call 88; refine (within_any _ _ _ _).mono ?_; rintro e w' ⟨rfl, rfl⟩)
      refine region_below 7 follows_mixed (by kernel_rfl) ?_
      intro C hC
      simp only [List.take_succ_cons, List.take_zero, List.drop_succ_cons, List.drop_zero]
      repeat (first
        | ((with_reducible refine quiet_plain rfl (fun K hK => ?_)); (focus (apply quiet_val; (focus (intro w' hw; obtain ⟨hcq, hfq⟩ := bcell ((hC.out _).1 hw); go_simp; (first | done | rfl | (with_reducible exact call_same hw (unless_any _ _ _))))); (simp only [Act.put, List.setIfInBounds_toArray, List.set_cons_succ, List.set_cons_zero]); (with_reducible refine hK _ ?_); clear hK K)))
        | ((with_reducible refine quiet_skip ?_ ?_); (focus (simp [Region.wanted, yielded]; done)); simp only [Act.put, List.setIfInBounds_toArray, List.set_cons_succ, List.set_cons_zero])
        | ((with_reducible refine quiet_go ?_ (fun K hK => ?_)); (focus (simp [Region.wanted, yielded]; done)); (focus (apply quiet_val; (focus (intro w' hw; obtain ⟨hcq, hfq⟩ := bcell ((hC.out _).1 hw); go_simp; (first | done | rfl | (with_reducible exact call_same hw (unless_any _ _ _))))); (simp only [Act.put, List.setIfInBounds_toArray, List.set_cons_succ, List.set_cons_zero]); (with_reducible refine hK _ ?_); clear hK K))))
      refine wpQuiet_nil ?_
      intro w1 hb1
      replace hb1 := (hC.out _).1 hb1
      clear hC C
      obtain ⟨hc1, hf1⟩ := bcell hb1
      go_wp2_with (go_at_call 86; refine (first2' _ _ _ _ _ (by first | (go_simp; done) | (go_simp; rfl)) (by first | (go_simp; done) | (go_simp; rfl)) _ HV.out).mono ?_; rintro e w' ⟨rfl, rfl⟩)
      go_ret
      exact ⟨ret_int HT2.out.symm, pa (pt (pa pr) hb1)⟩

end Go.Proofs.Ytlgioldmjohhlaa
