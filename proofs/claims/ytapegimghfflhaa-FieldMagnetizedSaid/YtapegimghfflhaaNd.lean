/- Contracts: what the program gives for the examples of the document (package field).
Contracts of the specification on curves (CheckCurve, CurveErr, CopyCurve) and of base: Cmp, IsSmall, Whole. -/
import Derived.Test.YtapegimghfflhaaNc
import Derived.Test.YtapegimghfflhaaNa
import Derived.Test.YtapegimghfflhaaMm

section
namespace Go.Proofs.Ytapegimghfflhaa
open Go.RowKit

theorem sol_three (A : Option Addr) (c : Nat) (w : World) (h : CellsIn w.heap.size w A (brsC threeN)) : Calls Try.prog 14 #[.agg #[.int .i64 2, .slice A 3 c]] w fun e w' => ∃ A1 A2 c1 c2, e = .returned (.tuple #[.agg #[.int .i64 9, .slice A1 2 c1, .slice A2 3 c2], .int .i64 0]) ∧ IntsIn w'.heap.size w' A1 [0, 30] ∧ IntsIn w'.heap.size w' A2 [20, 15, -5] ∧ Below w.heap.size w w' := by
  refine (SolutionOf_ok w.heap.size 2 threeN A 3 c w h (Nat.le_refl _) rfl (by decide +kernel)).mono ?_
  rintro e w' ⟨A1, A2, c1, c2, rfl, h1, h2, hb⟩
  rw [shown_sol] at h1 h2 ⊢
  exact ⟨A1, A2, c1, c2, rfl, ownInts h1, ownInts h2, hb⟩
theorem en_three (A : Option Addr) (c : Nat) (w : World) (h : CellsIn w.heap.size w A (brsC threeN)) : Calls Try.prog 16 #[.agg #[.int .i64 2, .slice A 3 c]] w fun e w' => e = .returned (.tuple #[.agg #[.int .i64 200, .int .i64 9], .int .i64 0]) ∧ Below w.heap.size w w' :=
  EnergyOf_ok w.heap.size 2 threeN A 3 c w h (Nat.le_refl _) rfl (by decide +kernel) (200, 9, 0) shown_energy
def ringR : List DTerm := [⟨2, 4⟩, ⟨1, 2⟩]
theorem span_ring (B : Nat) (A RA : Option Addr) (c rc : Nat) (w : World) (h : CellsIn B w A (brsC ringN)) (hr : CellsIn B w RA (termsC ringR)) (hB : B ≤ w.heap.size) : Calls Try.prog 17 #[.agg #[.int .i64 2, .slice A 2 c], .slice RA 2 rc] w fun e w' => e = .returned (.tuple #[.agg #[.int .i64 50, .int .i64 3, .int .i64 100, .int .i64 3], .int .i64 0]) ∧ Below w.heap.size w w' :=
  EnergySpan_ok B 2 ringN ringR A RA 2 c rc w h hr hB rfl (by decide +kernel) (by decide +kernel) (50, 3, 0) (100, 3, 0) (by decide +kernel) (by decide +kernel)
theorem mut_three (B : Nat) (A TA TB : Option Addr) (c ca cb : Nat) (w : World) (h : CellsIn B w A (brsC threeN)) (ha : IntsIn B w TA [1, 0, 0]) (hb : IntsIn B w TB [0, 1, 0]) (hB : B ≤ w.heap.size) : Calls Try.prog 19 #[.agg #[.int .i64 2, .slice A 3 c], .slice TA 3 ca, .slice TB 3 cb] w fun e w' => e = .returned (.tuple #[.agg #[.int .i64 1, .int .i64 6], .int .i64 0]) ∧ Below w.heap.size w w' :=
  MutualOf_ok B 2 threeN A 3 c [1, 0, 0] [0, 1, 0] TA TB ca cb w h ha hb hB rfl (by decide +kernel) (by decide +kernel) (by decide +kernel) (1, 6, 0) shown_mut
theorem flx_curve (A : Option Addr) (c : Nat) (w : World) (h : CellsIn w.heap.size w A (termsC curveP)) : Calls Try.prog 10 #[.agg #[.slice A 2 c], .int .i64 1, .int .i64 75] w fun e w' => e = .returned (.tuple #[.agg #[.int .i64 30, .int .i64 1], .int .i64 0]) ∧ Below w.heap.size w w' := by
  have h1 := FluxFor_any w.heap.size curveP A 2 c 1 75 w h (Nat.le_refl _) rfl (by decide)
  rwa [show flxE curveP 1 75 = (30, 1, 0) from by decide +kernel] at h1
theorem span_curve (B : Nat) (A1 A2 : Option Addr) (c1 c2 : Nat) (w : World) (h1 : CellsIn B w A1 (termsC curveP)) (h2 : CellsIn B w A2 (termsC highP)) (hB : B ≤ w.heap.size) : Calls Try.prog 21 #[.agg #[.slice A1 2 c1], .agg #[.slice A2 2 c2], .agg #[.int .i64 0, .int .i64 1, .int .i64 15]] w fun e w' => e = .returned (.tuple #[.agg #[.int .i64 15, .int .i64 2, .int .i64 15, .int .i64 1], .int .i64 0]) ∧ Below w.heap.size w w' :=
  FluxSpan_ok B curveP highP A1 A2 2 c1 2 c2 0 1 15 w h1 h2 hB rfl rfl (by decide +kernel) (by decide +kernel) (by decide) (by decide) (by decide) (by decide +kernel) (15, 2, 0) (15, 1, 0) shown_s1 shown_s2
end Go.Proofs.Ytapegimghfflhaa
end

section
namespace Go.Proofs.Ytapegimghfflhaa
open Go.RowKit

theorem point_info : (Try.prog.info? 89).map (fun i => (i.zero, i.size, i.bytes)) = some (some (.agg #[.int .i64 0, .int .i64 0]), 2, 16) := by kernel_rfl
set_option maxHeartbeats 2000000 in
set_option maxRecDepth 100000 in
theorem CopyCurve_any (B : Nat) (cv : List DTerm) (A : Option Addr) (n c : Nat) (w : World) (hr : CellsIn B w A (termsC cv)) (hB : B ≤ w.heap.size) (hn : cv.length = n) (hm : n ≤ 1000) :
    Calls Try.prog 9 #[.agg #[.slice A n c]] w fun e w' => ∃ A2 c2, e = .returned (.agg #[.slice A2 n c2]) ∧ CellsIn w'.heap.size w' A2 (termsC cv) ∧ Below w.heap.size w w' := by
  obtain ⟨i0, hi0, hz0, hz1, hz2⟩ := info_of point_info
  have HO := Lib.hid (show ((w.alloc (.cells #[.slice A n c] 24)).alloc (.cells #[.slice none 0 0] 24)).alloc (.cells #[] 89) |>.ownsRow w.heap.size 89 2 (.slice (some ⟨w.heap.size + 1 + 1, 0, none⟩) 0 0) 0 [] from by
    have h := World.ownsRow_lit (base := w.heap.size) (e := 89) (size := 2) ((w.alloc (.cells #[.slice A n c] 24)).alloc (.cells #[.slice none 0 0] 24)) #[] 0 (by simp; omega) (Nat.zero_le _) rfl
    simpa using h)
  have HBl := Lib.hid (show Below w.heap.size w (((w.alloc (.cells #[.slice A n c] 24)).alloc (.cells #[.slice none 0 0] 24)).alloc (.cells #[] 89)) from pa (pa (pa pr)))
  have HC := Lib.hid (hr.below (HBl.out.mono hB))
  have H1 := Lib.hid (show ∀ u ∈ termsC cv, u.oneCell' = true from flat_one term_one cv)
  have HL := Lib.hid (show (termsC cv).length = n * 2 from by rw [← hn]; exact flat_len term_len cv)
  have HM := Lib.hid (show 0 + n ≤ maxLen by simp only [maxLen]; omega)
  have R0 := Lib.hid (show Blk (((w.alloc (.cells #[.slice A n c] 24)).alloc (.cells #[.slice none 0 0] 24)).alloc (.cells #[] 89)) w.heap.size 24 #[.slice A n c] from ((Blk.newAt rfl).alloc).alloc)
  have R1 := Lib.hid (show Blk (((w.alloc (.cells #[.slice A n c] 24)).alloc (.cells #[.slice none 0 0] 24)).alloc (.cells #[] 89)) (w.heap.size + 1) 24 #[.slice none 0 0] from (Blk.newAt (by simp)).alloc)
  clear hr hn
  go_enter Try.func9, Try.ntmps9
  go_wp2_with (at_builtin; go_must (refine wpList_append_cells _ rfl (.tmp 3) (.tmp 5) _ rfl w.heap.size 89 i0 _ 2 16 Try.underlying22 hi0 hz0 hz1 hz2 rfl (by omega) (.slice (some ⟨w.heap.size + 1 + 1, 0, none⟩) 0 0) 0 [] rfl HO.out B A n c _ rfl HC.out HL.out H1.out HM.out (by omega) (by simp; omega) ?_); intro v1 w1 hown1 hg1 hat1; obtain ⟨A3, c3, rfl, hc3, _⟩ := own_form hown1; have HB1 := Lib.hid (pg HBl.out HO.out (Nat.le_refl _) hg1); have P0 := Lib.hid (R0.out.grown hg1 (ownNe HO.out R0.out (by decide))); have P1 := Lib.hid (R1.out.grown hg1 (ownNe HO.out R1.out (by decide))); have HOw := Lib.hid hown1; have x0 := P0.out.cellAt 0 rfl; have xf := P0.out.frozen 0; have xl := P0.out.lt; have y0 := P1.out.cellAt 0 rfl; have yf := P1.out.frozen 0; have yl := P1.out.lt; clear hown1 hg1 hat1)
  have Q0 := Lib.hid (show Blk ((w1.setCell ⟨w.heap.size, 0, none⟩ (.slice A3 (0 + n) c3)).setCell ⟨w.heap.size + 1, 0, none⟩ (.slice A3 (0 + n) c3)) (w.heap.size + 1) 24 #[.slice A3 (0 + n) c3] from by simpa using (P1.out.far (p := ⟨w.heap.size, 0, none⟩) (u := .slice A3 (0 + n) c3) (by dsimp only; omega)).set_ 0 (.slice A3 (0 + n) c3))
  have HOx := ownCellT (ownCellT HOw.out P0.out (by decide) (q := ⟨w.heap.size, 0, none⟩) rfl (.slice A3 (0 + n) c3)) (P1.out.far (p := ⟨w.heap.size, 0, none⟩) (u := .slice A3 (0 + n) c3) (by dsimp only; omega)) (by decide) (q := ⟨w.heap.size + 1, 0, none⟩) rfl (.slice A3 (0 + n) c3)
  have z0 := Q0.out.cellAt 0 rfl
  rw [Nat.zero_add] at *
  refine bodyPost_ret (v := .agg #[.slice A3 n c3]) (by simp [results, Try.results9, go_sem, z0]) rfl ⟨A3, c3, rfl, ?_, ps (ps HB1.out (Nat.le_refl _)) (Nat.le_succ _)⟩
  rw [List.nil_append] at HOx
  exact cellsIn_of_own HOx

theorem Whole_any (n : Int) (w : World) :
    Calls Try.prog 11 #[.int .i64 n] w fun e w' => e = .returned (.agg #[.int .i64 n, .int .i64 1]) ∧ Below w.heap.size w w' := by
  go_enter Try.func11, Try.ntmps11
  have Z := Lib.hid (show Blk (w.alloc (.cells #[.int .i64 0, .int .i64 0] 32)) w.heap.size 32 #[.int .i64 0, .int .i64 0] from Blk.newAt rfl)
  have zl := Z.out.lt
  go_wp2_with ((with_reducible refine store_blk (T := 32) (x := .tmp 2) (y := .tmp 4) (vs := #[.int .i64 n, .int .i64 1]) Z.out ?_ ?_ ?_ ?_ ?_ ?_); (focus rfl); (focus exact frac_size); (focus (simp [Value.oneCell']; done)); (focus (first | rfl | (go_simp; done))); (focus (first | rfl | (go_simp; done))); intro WF RF PF)
  have g0 := RF.cellAt 0 rfl
  have g1 := RF.cellAt 1 rfl
  exact bodyPost_ret (v := .agg #[.int .i64 n, .int .i64 1]) (by simp [results, Try.results11, go_sem, g0, g1]) rfl ⟨rfl, pp (pa (pr (w := w))) PF (Nat.le_refl _)⟩

def fsmallB (n d : Int) : Bool := withinB n (-1000000000) 1000000000 && withinB d 1 1000000000
set_option maxHeartbeats 1000000 in
theorem isSmall_any (n d : Int) (w : World) :
    Calls Try.prog 12 #[.agg #[.int .i64 n, .int .i64 d]] w fun e w' => e = .returned (.bool (fsmallB n d)) ∧ Below w.heap.size w w' := by
  have H1 := Lib.hid (fun w => refWithin_any n (-1000000000) 1000000000 w)
  have H2 := Lib.hid (fun w => refWithin_any d 1 1000000000 w)
  unfold fsmallB
  generalize withinB n (-1000000000) 1000000000 = a at *
  generalize withinB d 1 1000000000 = b at *
  cases a
  all_goals
    simp only [Bool.false_and, Bool.true_and]
    go_enter Try.func12, Try.ntmps12
    go_wp2_with (go_at_call 7; (first | (with_reducible refine (H1.out _).mono ?_) | (with_reducible refine (H2.out _).mono ?_)); rintro e w' ⟨rfl, rfl⟩)
    go_ret
    exact ⟨rfl, pa pr⟩

/-- The comparison of small fractions. -/
def cmpV (a b c d : Int) : Int := if a * d < c * b then -1 else if c * b < a * d then 1 else 0
set_option maxHeartbeats 2000000 in
theorem Cmp_any (a b c d : Int) (h1 : -1000000000 ≤ a ∧ a ≤ 1000000000) (h2 : -1000000000 ≤ b ∧ b ≤ 1000000000) (h3 : -1000000000 ≤ c ∧ c ≤ 1000000000) (h4 : -1000000000 ≤ d ∧ d ≤ 1000000000) (w : World) :
    Calls Try.prog 13 #[.agg #[.int .i64 a, .int .i64 b], .agg #[.int .i64 c, .int .i64 d]] w fun e w' => e = .returned (.int .i64 (cmpV a b c d)) ∧ Below w.heap.size w w' := by
  have p1 := mul_absI h1 h4
  have p2 := mul_absI h3 h2
  have w1 : wrap64 (a * d) = a * d := w64 (by omega)
  have w1i : IntKind.i64.wrap (a * d) = a * d := IntWalk.i64_in _ (by omega)
  have w2 : wrap64 (c * b) = c * b := w64 (by omega)
  have w2i : IntKind.i64.wrap (c * b) = c * b := IntWalk.i64_in _ (by omega)
  have HV := Lib.hid (show cmpV a b c d = if a * d < c * b then -1 else if c * b < a * d then 1 else 0 from rfl)
  generalize cmpV a b c d = R at *
  clear p1 p2 h1 h2 h3 h4
  go_enter Try.func13, Try.ntmps13
  go_wp2
  go_quiet (fail)
  have HB := Lib.hid (show Below w.heap.size w ((((w.alloc (.cells #[.int .i64 a, .int .i64 b] 32)).alloc (.cells #[.int .i64 c, .int .i64 d] 32))).drewN nq) from below_drewN' (pa (pa pr)) _)
  generalize (((w.alloc (.cells #[.int .i64 a, .int .i64 b] 32)).alloc (.cells #[.int .i64 c, .int .i64 d] 32))).drewN nq = wr at *
  generalize a * d = x at *
  generalize c * b = y at *
  rcases Int.lt_trichotomy x y with h | h | h
  · have HE := Lib.hid (show R = -1 by rw [HV.out, if_pos h])
    clear HV
    go_wp2
    go_ret
    exact ⟨ret_int HE.out.symm, HB.out⟩
  · have HE := Lib.hid (show R = 0 by rw [HV.out, if_neg (by omega), if_neg (by omega)])
    have e1 : ¬ x < y := by omega
    have e2 : ¬ y < x := by omega
    clear HV h
    go_wp2
    go_ret
    exact ⟨ret_int HE.out.symm, HB.out⟩
  · have HE := Lib.hid (show R = 1 by rw [HV.out, if_neg (by omega), if_pos h])
    have e1 : ¬ x < y := by omega
    clear HV
    go_wp2
    go_ret
    exact ⟨ret_int HE.out.symm, HB.out⟩
end Go.Proofs.Ytapegimghfflhaa
end
