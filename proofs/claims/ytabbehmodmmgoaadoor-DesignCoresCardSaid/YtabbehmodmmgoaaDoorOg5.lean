/- The law DesignSteps: the walk. Printed by a program (gen_d5steps.py). -/
import Derived.Test.YtabbehmodmmgoaaDoorOg3
import Derived.Test.YtabbehmodmmgoaaDoorOe5
import Derived.Test.YtabbehmodmmgoaaDoorOd9

section
namespace Go.Proofs.YtabbehmodmmgoaaDoor
open Go.RowKit

theorem copy_formS {ws : List Int} {W : World} {e : Ending} {w' : World} (h : RowRet W ws e w') : ∃ A c, e = .returned (.slice A ws.length c) ∧ IntsIn w'.heap.size w' A ws ∧ Below W.heap.size W w' := by
  obtain ⟨v, rfl, ho, hb⟩ := h
  obtain ⟨A, c, rfl, _, _⟩ := own_form ho
  exact ⟨A, c, rfl, intsIn_of_own ho, hb⟩
theorem stepsE_of {d : Int} {ws : List Int} {m : Int} (hd : 1 ≤ d ∧ d ≤ 2000) (he : wE d ws = 0) (hz : 0 < ws.length) (hm : 1 ≤ m ∧ m ≤ 12) : widthsE d ws = 0 ∧ stepsE d ws m = 0 := by
  have h1 : widthsE d ws = 0 := by
    unfold widthsE
    have h2 : diamE d = 0 := diamE_ok.2 (by omega)
    rw [if_neg (by simp [h2])]
    exact he
  refine ⟨h1, ?_⟩
  unfold stepsE
  refine firstV_zero.2 ⟨h1, firstV_zero.2 ⟨(unless_ne (by decide)).2 ?_, firstV_zero.2 ⟨(unless_ne (by decide)).2 ?_, rfl⟩⟩⟩
  · simp only [withinB, Bool.and_eq_true, decide_eq_true_eq]; omega
  · simpa using hz
theorem mem_has {xs : List Int} {x : Int} (h : x ∈ xs) : hasB xs x = true := by simpa [hasB] using h
theorem widths_len {d : Int} {ws : List Int} (hd : 1 ≤ d ∧ d ≤ 2000) (h : WidthsOk d ws) (hl : ws.length ≤ 12) : widthsE d ws = 0 := by
  unfold widthsE
  have h2 : diamE d = 0 := diamE_ok.2 (by omega)
  rw [if_neg (by simp [h2])]
  exact of_widths h hl
theorem steps_nums {d v h G : Int} (hd : 1 ≤ d ∧ d ≤ 2000) (hv : 1 ≤ v ∧ v ≤ d) (g1 : 0 ≤ h) (g2 : h * h + v * v ≤ d * d) (g3 : d * d < (h + 1) * (h + 1) + v * v) (g4 : h < d) (hon : v * h ≤ G) :
    wrap64 (h * h) = h * h ∧ wrap64 (v * v) = v * v ∧ wrap64 (d * d) = d * d ∧ wrap64 (h * h + v * v) = h * h + v * v ∧ wrap64 (h + 1) = h + 1 ∧ wrap64 ((h + 1) * (h + 1)) = (h + 1) * (h + 1) ∧ wrap64 ((h + 1) * (h + 1) + v * v) = (h + 1) * (h + 1) + v * v ∧ wrap64 (v * h) = v * h ∧ IntKind.i64.wrap (h * h) = h * h ∧ IntKind.i64.wrap (v * v) = v * v ∧ IntKind.i64.wrap (d * d) = d * d ∧ IntKind.i64.wrap (h * h + v * v) = h * h + v * v ∧ IntKind.i64.wrap (h + 1) = h + 1 ∧ IntKind.i64.wrap ((h + 1) * (h + 1)) = (h + 1) * (h + 1) ∧ IntKind.i64.wrap ((h + 1) * (h + 1) + v * v) = (h + 1) * (h + 1) + v * v ∧ IntKind.i64.wrap (v * h) = v * h ∧ ¬ d * d < h * h + v * v ∧ ¬ (h + 1) * (h + 1) + v * v ≤ d * d ∧ decide (d * d < h * h + v * v) = false ∧ decide ((h + 1) * (h + 1) + v * v ≤ d * d) = false ∧ ¬ G < v * h ∧ withinB h 0 d = true := by
  have s1 := sq_bd (n := h) (m := 2000) g1 (by omega)
  have s2 := sq_bd (n := h + 1) (m := 2000) (by omega) (by omega)
  have s3 := sq_bd (n := v) (m := 2000) (by omega) (by omega)
  have s5 := sq_bd (n := d) (m := 2000) (by omega) (by omega)
  have s4 : 0 ≤ v * h ∧ v * h ≤ 4000000 := ⟨Int.mul_nonneg (by omega) g1, Int.le_trans (Int.mul_le_mul hv.2 (show h ≤ d by omega) g1 (by omega)) s5.2⟩
  have e1 : ¬ d * d < h * h + v * v := by omega
  have e2 : ¬ (h + 1) * (h + 1) + v * v ≤ d * d := by omega
  have e4 : withinB h 0 d = true := by simp only [withinB, Bool.and_eq_true, decide_eq_true_eq]; omega
  exact ⟨w64 (by omega), w64 (by omega), w64 (by omega), w64 (by omega), w64 (by omega), w64 (by omega), w64 (by omega), w64 (by omega), IntWalk.i64_in _ (by omega), IntWalk.i64_in _ (by omega), IntWalk.i64_in _ (by omega), IntWalk.i64_in _ (by omega), IntWalk.i64_in _ (by omega), IntWalk.i64_in _ (by omega), IntWalk.i64_in _ (by omega), IntWalk.i64_in _ (by omega), e1, e2, decide_eq_false e1, decide_eq_false e2, by omega, e4⟩

set_option maxRecDepth 100000 in
set_option maxHeartbeats 2000000 in
theorem steps_none (B : Nat) (d : Int) (ws : List Int) (A : Option Addr) (n c : Nat) (m : Int) (w : World) (hU : UnitIn w) (hQ : TabS 2 qWords w) (hW : TabS 0 uWords w) (hr : IntsIn B w A ws) (hB : B ≤ w.heap.size) (hn : ws.length = n) (hz : n = 0) :
    Calls Tryd.prog 5 #[.int .i64 d, .slice A n c, .int .i64 m] w fun e w' => e = .returned (.bool true) ∧ Below w.heap.size w w' := by
  have HAw := Lib.hid (awake_any w hU hQ hW)
  have HDe := Lib.hid (fun W => refDiameterErr_any d W)
  have HWe := Lib.hid (fun W (hW : Below w.heap.size w W) (hm : n ≤ 1000) => refWidthsErr_any B d ws A n c W (hr.below (hW.mono hB)) (Nat.le_trans hB hW.size) hn hm)
  clear hU hQ hW hr hn
  have hz1 : (n : Int) = 0 := by omega
  go_enter Tryd.func5, Tryd.ntmps5
  go_wp2_with (first
    | (go_at_call 17; refine HAw.out.mono ?_; rintro e w1 ⟨rfl, hb1⟩; have HB1 := Lib.hid hb1; clear hb1))
  go_ret
  exact ⟨rfl, HB1.out⟩

set_option maxRecDepth 100000 in
set_option maxHeartbeats 2000000 in
theorem steps_many (B : Nat) (d : Int) (ws : List Int) (A : Option Addr) (n c : Nat) (m : Int) (w : World) (hU : UnitIn w) (hQ : TabS 2 qWords w) (hW : TabS 0 uWords w) (hr : IntsIn B w A ws) (hB : B ≤ w.heap.size) (hn : ws.length = n) (_hz : ¬ n = 0) (h8 : 8 < n) :
    Calls Tryd.prog 5 #[.int .i64 d, .slice A n c, .int .i64 m] w fun e w' => e = .returned (.bool true) ∧ Below w.heap.size w w' := by
  have HAw := Lib.hid (awake_any w hU hQ hW)
  have HDe := Lib.hid (fun W => refDiameterErr_any d W)
  have HWe := Lib.hid (fun W (hW : Below w.heap.size w W) (hm : n ≤ 1000) => refWidthsErr_any B d ws A n c W (hr.below (hW.mono hB)) (Nat.le_trans hB hW.size) hn hm)
  clear hU hQ hW hr hn
  have hz1 : ((n : Int) == 0) = false := beq_eq_false_iff_ne.2 (by omega)
  have hz2 : (8 : Int) < (n : Int) := by omega
  go_enter Tryd.func5, Tryd.ntmps5
  go_wp2_with (first
    | (go_at_call 17; refine HAw.out.mono ?_; rintro e w1 ⟨rfl, hb1⟩; have HB1 := Lib.hid hb1; clear hb1))
  go_ret
  exact ⟨rfl, HB1.out⟩

set_option maxRecDepth 100000 in
set_option maxHeartbeats 2000000 in
theorem steps_diam (B : Nat) (d : Int) (ws : List Int) (A : Option Addr) (n c : Nat) (m : Int) (w : World) (hU : UnitIn w) (hQ : TabS 2 qWords w) (hW : TabS 0 uWords w) (hr : IntsIn B w A ws) (hB : B ≤ w.heap.size) (hn : ws.length = n) (hz : ¬ n = 0) (h8 : n ≤ 8) (hd : diamE d ≠ 0) :
    Calls Tryd.prog 5 #[.int .i64 d, .slice A n c, .int .i64 m] w fun e w' => e = .returned (.bool true) ∧ Below w.heap.size w w' := by
  have HAw := Lib.hid (awake_any w hU hQ hW)
  have HDe := Lib.hid (fun W => refDiameterErr_any d W)
  have HWe := Lib.hid (fun W (hW : Below w.heap.size w W) (hm : n ≤ 1000) => refWidthsErr_any B d ws A n c W (hr.below (hW.mono hB)) (Nat.le_trans hB hW.size) hn hm)
  clear hU hQ hW hr hn
  have hz1 : ((n : Int) == 0) = false := beq_eq_false_iff_ne.2 (by omega)
  have hz2 : ¬ (8 : Int) < (n : Int) := by omega
  have hd1 : (diamE d != 0) = true := by simpa using hd
  generalize diamE d = E at *
  go_enter Tryd.func5, Tryd.ntmps5
  go_wp2_with (first
    | (go_at_call 17; refine HAw.out.mono ?_; rintro e w1 ⟨rfl, hb1⟩; have HB1 := Lib.hid hb1; clear hb1)
    | (go_at_call 18; refine (HDe.out _).mono ?_; rintro e w' ⟨rfl, rfl⟩))
  go_ret
  exact ⟨rfl, HB1.out⟩

set_option maxRecDepth 100000 in
set_option maxHeartbeats 2000000 in
theorem steps_bad (B : Nat) (d : Int) (ws : List Int) (A : Option Addr) (n c : Nat) (m : Int) (w : World) (hU : UnitIn w) (hQ : TabS 2 qWords w) (hW : TabS 0 uWords w) (hr : IntsIn B w A ws) (hB : B ≤ w.heap.size) (hn : ws.length = n) (hz : ¬ n = 0) (h8 : n ≤ 8) (hd : diamE d = 0) (he : wE d ws ≠ 0) :
    Calls Tryd.prog 5 #[.int .i64 d, .slice A n c, .int .i64 m] w fun e w' => e = .returned (.bool true) ∧ Below w.heap.size w w' := by
  have HAw := Lib.hid (awake_any w hU hQ hW)
  have HDe := Lib.hid (fun W => refDiameterErr_any d W)
  have HWe := Lib.hid (fun W (hW : Below w.heap.size w W) (hm : n ≤ 1000) => refWidthsErr_any B d ws A n c W (hr.below (hW.mono hB)) (Nat.le_trans hB hW.size) hn hm)
  clear hU hQ hW hr hn
  have hz1 : ((n : Int) == 0) = false := beq_eq_false_iff_ne.2 (by omega)
  have hz2 : ¬ (8 : Int) < (n : Int) := by omega
  rw [hd] at HDe
  replace HWe := Lib.hid (fun W hW => HWe.out W hW (by omega))
  have he1 : (wE d ws != 0) = true := by simpa using he
  generalize wE d ws = E at *
  go_enter Tryd.func5, Tryd.ntmps5
  go_wp2_with (first
    | (go_at_call 17; refine HAw.out.mono ?_; rintro e w1 ⟨rfl, hb1⟩; have HB1 := Lib.hid hb1; clear hb1)
    | (go_at_call 18; refine (HDe.out _).mono ?_; rintro e w' ⟨rfl, rfl⟩)
    | (go_at_call 9; refine (HWe.out _ HB1.out).mono ?_; rintro e w2 ⟨rfl, hb2⟩; have HB2 := Lib.hid (pt HB1.out hb2); clear hb2))
  go_ret
  exact ⟨rfl, HB2.out⟩

set_option maxRecDepth 100000 in
set_option maxHeartbeats 2000000 in
theorem steps_off (B : Nat) (d : Int) (ws : List Int) (A : Option Addr) (n c : Nat) (m : Int) (w : World) (hU : UnitIn w) (hQ : TabS 2 qWords w) (hW : TabS 0 uWords w) (hr : IntsIn B w A ws) (hB : B ≤ w.heap.size) (hn : ws.length = n) (hz : ¬ n = 0) (h8 : n ≤ 8) (hd : diamE d = 0) (he : wE d ws = 0) (hm : withinB m 1 11 = false) :
    Calls Tryd.prog 5 #[.int .i64 d, .slice A n c, .int .i64 m] w fun e w' => e = .returned (.bool true) ∧ Below w.heap.size w w' := by
  have HAw := Lib.hid (awake_any w hU hQ hW)
  have HDe := Lib.hid (fun W => refDiameterErr_any d W)
  have HWe := Lib.hid (fun W (hW : Below w.heap.size w W) (hm : n ≤ 1000) => refWidthsErr_any B d ws A n c W (hr.below (hW.mono hB)) (Nat.le_trans hB hW.size) hn hm)
  clear hU hQ hW hr hn
  have hz1 : ((n : Int) == 0) = false := beq_eq_false_iff_ne.2 (by omega)
  have hz2 : ¬ (8 : Int) < (n : Int) := by omega
  rw [hd] at HDe
  replace HWe := Lib.hid (fun W hW => HWe.out W hW (by omega))
  rw [he] at HWe
  go_enter Tryd.func5, Tryd.ntmps5
  go_wp2_with (first
    | (go_at_call 17; refine HAw.out.mono ?_; rintro e w1 ⟨rfl, hb1⟩; have HB1 := Lib.hid hb1; clear hb1)
    | (go_at_call 18; refine (HDe.out _).mono ?_; rintro e w' ⟨rfl, rfl⟩)
    | (go_at_call 9; refine (HWe.out _ HB1.out).mono ?_; rintro e w2 ⟨rfl, hb2⟩; have HB2 := Lib.hid (pt HB1.out hb2); clear hb2)
    | (go_at_call 8; refine (refWithin_any _ _ _ _).mono ?_; rintro e w' ⟨rfl, rfl⟩))
  go_ret
  exact ⟨rfl, HB2.out⟩

end Go.Proofs.YtabbehmodmmgoaaDoor
end
