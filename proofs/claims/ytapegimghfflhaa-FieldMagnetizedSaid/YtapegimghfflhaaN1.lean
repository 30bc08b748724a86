/- Plain facts: the examples of the document that are shown first (chapter 3). No condition.
Contracts: SolutionOf, energy, EnergyOf (package field). -/
import Derived.Test.YtapegimghfflhaaMx
import Derived.Test.YtapegimghfflhaaM4
import Derived.Test.YtapegimghfflhaaMz

section
namespace Go.Proofs.Ytapegimghfflhaa

/-- A network with other reluctances. -/
def withV (bs : List FBr) (xs : List Int) : List FBr := (List.range bs.length).map fun i => { bs.getD i default with r := xs.getD i 0 }
theorem withV_len (bs : List FBr) (xs : List Int) : (withV bs xs).length = bs.length := by simp [withV]
theorem withV_at (bs : List FBr) (xs : List Int) {i : Nat} (hi : i < bs.length) : (withV bs xs).getD i default = { bs.getD i default with r := xs.getD i 0 } := by simp [withV, List.getD, hi]
/-- The energy as a fraction in lowest terms, or the error. -/
def energyV (bs : List FBr) (N : Nat) (a b : List Int) : Int × Int × Int := fracV (energyF bs N a b).1 (energyF bs N a b).2
def curveP : List DTerm := [⟨10, 5⟩, ⟨20, 25⟩]
def highP : List DTerm := [⟨10, 10⟩, ⟨20, 40⟩]
theorem shown_sol : solvedV threeN 2 = (9, [0, 30], [20, 15, -5]) := by decide +kernel
theorem shown_energy : energyV threeN 2 (trnV threeN) (trnV threeN) = (200, 9, 0) := by decide +kernel
theorem shown_mut : energyV threeN 2 [1, 0, 0] [0, 1, 0] = (1, 6, 0) := by decide +kernel
theorem shown_s1 : flxV highP 1 15 = (15, 2, 0) := by decide +kernel
theorem shown_s2 : flxV curveP 0 15 = (15, 1, 0) := by decide +kernel
end Go.Proofs.Ytapegimghfflhaa
end

section
namespace Go.Proofs.Ytapegimghfflhaa
open Go.RowKit

set_option maxHeartbeats 4000000 in
set_option maxRecDepth 100000 in
theorem SolutionOf_ok (B : Nat) (N : Nat) (bs : List FBr) (A : Option Addr) (n c : Nat) (w : World) (hr : CellsIn B w A (brsC bs)) (hB : B ≤ w.heap.size) (hn : bs.length = n) (hE : (netE (N : Int) bs).2 = 0) :
    Calls Try.prog 14 #[.agg #[.int .i64 (N : Int), .slice A n c]] w fun e w' => ∃ A1 A2 c1 c2, e = .returned (.tuple #[.agg #[.int .i64 (solvedV bs N).1, .slice A1 N c1, .slice A2 n c2], .int .i64 0]) ∧ w'.ownsRow w.heap.size 3 1 (.slice A1 N c1) N ((solvedV bs N).2.1.map (Value.int .i64)) ∧ w'.ownsRow w.heap.size 3 1 (.slice A2 n c2) n ((solvedV bs N).2.2.map (Value.int .i64)) ∧ Below w.heap.size w w' := by
  have hok := net_ok hE
  have hm := hok.m
  have HE := Lib.hid (fun W (hW : Below w.heap.size w W) => (show Calls Try.prog 33 #[.agg #[.int .i64 (N : Int), .slice A n c]] W fun e w' => e = .returned (.int .i64 0) ∧ Below W.heap.size W w' from by
    have h := netErr_any B N bs A n c W (hr.below (hW.mono hB)) (Nat.le_trans hB hW.size) hn (by omega)
    rwa [hE] at h))
  have HNw := Lib.hid (fun W (hW : Below w.heap.size w W) => newField_any B N bs A n c W hok (hr.below (hW.mono hB)) (Nat.le_trans hB hW.size) hn)
  have HSo := Lib.hid (fun f W (hF : FldAt W.heap.size N bs f W) => solved_any W.heap.size N f bs W hok hF (Nat.le_refl _))
  rw [hn] at HSo
  have HB0 := Lib.hid (show Below w.heap.size w ((w.alloc (.cells #[.int .i64 (N : Int), .slice A n c] 49)).alloc (.cells #[.int .i64 0, .slice none 0 0, .slice none 0 0] 44)) from pa (pa pr))
  have R0 := Lib.hid (show Blk ((w.alloc (.cells #[.int .i64 (N : Int), .slice A n c] 49)).alloc (.cells #[.int .i64 0, .slice none 0 0, .slice none 0 0] 44)) w.heap.size 49 #[.int .i64 (N : Int), .slice A n c] from (Blk.newAt rfl).alloc)
  have Z0 := Lib.hid (show Blk ((w.alloc (.cells #[.int .i64 (N : Int), .slice A n c] 49)).alloc (.cells #[.int .i64 0, .slice none 0 0, .slice none 0 0] 44)) (w.heap.size + 1) 44 #[.int .i64 0, .slice none 0 0, .slice none 0 0] from Blk.newAt (by simp))
  clear hok hr hE hn
  generalize solvedV bs N = V at *
  obtain ⟨d, P, F⟩ := V
  dsimp only at *
  go_enter Try.func14, Try.ntmps14
  go_wp2_with (first
    | (go_at_call 33; (go_must (refine (HE.out _ HB0.out).mono ?_)); rintro e w1 ⟨rfl, hb1⟩; have HB1 := Lib.hid (pt HB0.out hb1); have R1 := Lib.hid (R0.out.past hb1); have Z1 := Lib.hid (Z0.out.past hb1); clear hb1; have x0 := R1.out.cellAt 0 rfl; have x1 := R1.out.cellAt 1 rfl; have xl := R1.out.lt)
    | (go_at_call 34; (go_must (refine (HNw.out _ HB1.out).mono ?_)); rintro e w2 ⟨f, rfl, hf2, hb2⟩; have HF2 := Lib.hid hf2; have HB2 := Lib.hid (pt HB1.out hb2); have Z2 := Lib.hid (Z1.out.past hb2); clear hf2 hb2)
    | (go_at_call 35; (go_must (refine (HSo.out _ _ HF2.out).mono ?_)); rintro e w3 ⟨A1, A2, c1, c2, rfl, h1, h2, hb3⟩; have H1 := Lib.hid h1; have H2 := Lib.hid h2; have HB3 := Lib.hid (pt HB2.out hb3); have Z3 := Lib.hid (Z2.out.past hb3); clear h1 h2 hb3)
    | ((with_reducible refine store_blk (T := 44) (x := .tmp 2) (y := .tmp 13) (vs := #[.int .i64 d, .slice A1 N c1, .slice A2 n c2]) Z3.out ?_ ?_ ?_ ?_ ?_ ?_); (focus rfl); (focus exact solution_size); (focus (simp [Value.oneCell']; done)); (focus (first | rfl | (go_simp; done))); (focus (first | rfl | (go_simp; done))); intro WF RF PF))
  have r0 := RF.cellAt 0 rfl
  have r1 := RF.cellAt 1 rfl
  have r2 := RF.cellAt 2 rfl
  have hz2 := Z2.out.lt
  refine bodyPost_ret (v := .tuple #[.agg #[.int .i64 d, .slice A1 N c1, .slice A2 n c2], .int .i64 0]) (by simp [results, Try.results14, go_sem, r0, r1, r2]) rfl ?_
  exact ⟨A1, A2, c1, c2, rfl, ownDown (ownPut H1.out PF hz2) HB2.out.size, ownDown (ownPut H2.out PF hz2) HB2.out.size, pp HB3.out PF (by omega)⟩

theorem flux_dot {bs : List FBr} {N : Nat} (hok : NetOk N bs) {a b : List Int} (hs : FlxSm (loopsV bs N) (relV bs) a) (hb : ∀ j, -50 ≤ b.getD j 0 ∧ b.getD j 0 ≤ 50) : (∀ k, Wd ((fluxesV (loopsV bs N) (relV bs) a).1.getD k 0 * b.getD k 0)) ∧ ∀ k, k ≤ 7 → -40000000000000000 ≤ dotTo (fluxesV (loopsV bs N) (relV bs) a).1 b k ∧ dotTo (fluxesV (loopsV bs N) (relV bs) a).1 b k ≤ 40000000000000000 := by
  obtain ⟨_, hf⟩ := flx_bdL hok hs
  generalize (fluxesV (loopsV bs N) (relV bs) a).1 = F at *
  have h1 : ∀ k, -5000000000000000 ≤ F.getD k 0 * b.getD k 0 ∧ F.getD k 0 * b.getD k 0 ≤ 5000000000000000 := fun k => by
    have h2 := hf k
    have h3 := hb k
    generalize F.getD k 0 = x at *
    generalize b.getD k 0 = y at *
    have := Int.mul_le_mul_of_nonneg_left h3.2 (show 0 ≤ 100000000000000 - x by omega)
    have := Int.mul_le_mul_of_nonneg_left h3.1 (show 0 ≤ 100000000000000 - x by omega)
    have := Int.mul_le_mul_of_nonneg_left h3.2 (show 0 ≤ 100000000000000 + x by omega)
    have := Int.mul_le_mul_of_nonneg_left h3.1 (show 0 ≤ 100000000000000 + x by omega)
    simp only [Int.sub_mul, Int.add_mul] at *
    omega
  refine ⟨fun k => by have := h1 k; unfold Wd; omega, fun k hk => ?_⟩
  have h4 : ∀ k : Nat, -(5000000000000000 * (k : Int)) ≤ dotTo F b k ∧ dotTo F b k ≤ 5000000000000000 * (k : Int) := fun k => by
    induction k with
    | zero => rw [dotTo]; omega
    | succ k ih =>
      have := h1 k
      rw [dotTo]
      omega
  have := h4 k
  omega
set_option maxHeartbeats 4000000 in
set_option maxRecDepth 100000 in
theorem energyFd_any (B N f : Nat) (bs : List FBr) (a b : List Int) (TA TB : Option Addr) (ca cb : Nat) (w : World) (hok : NetOk N bs) (hF : FldAt B N bs f w) (hB : B ≤ w.heap.size) (ha : IntsIn B w TA a) (hb : IntsIn B w TB b) (hla : a.length = bs.length) (hlb : b.length = bs.length) (hab : ∀ j, -50 ≤ a.getD j 0 ∧ a.getD j 0 ≤ 50) (hbb : ∀ j, -50 ≤ b.getD j 0 ∧ b.getD j 0 ≤ 50) :
    Calls Try.prog 36 #[.pointer (some ⟨f, 0, none⟩), .slice TA bs.length ca, .slice TB bs.length cb] w fun e w' => e = .returned (.tuple #[.int .i64 (energyF bs N a b).1, .int .i64 (energyF bs N a b).2]) ∧ Below w.heap.size w w' := by
  obtain ⟨A, gl, gh, AO, LA, RA, c, cl, ch, cO, lc, rc, hbk, hfB, hA, hlo, hha, hod, hlp, hre⟩ := hF.ex
  have hm := hok.m
  have hL := loopsV_ok hok
  have hs := flx_small hok hab hla
  have HFx := Lib.hid (fluxesFd_any B f N A bs.length c _ _ _ (loopsV bs N) (relV bs) a LA RA TA (loopsV bs N).length lc rc ca bs.length w hbk hlp hre ha hB (by unfold relV; rw [List.length_map]) hla hm rfl hL.cnt
    (fun i j => by
      by_cases hi : i < (loopsV bs N).length
      · exact hL.bd _ (by rw [List.getD_eq_getElem?_getD, List.getElem?_eq_getElem hi]; exact List.getElem_mem hi) j
      · rw [show (loopsV bs N).getD i [] = [] by simp [List.getD, Nat.le_of_not_lt hi]]
        simp)
    (fun j => by
      by_cases hj : j < bs.length
      · rw [rel_at hj]; exact (br_small hok j).1
      · rw [getD_out _ (by unfold relV; rw [List.length_map]; omega)]; decide) hab hs)
  obtain ⟨hd1, hd2⟩ := flux_dot hok hs hbb
  have HFl := Lib.hid (show (fluxesV (loopsV bs N) (relV bs) a).1.length = bs.length from by rw [flx_len]; exact hla)
  have HDt := Lib.hid (fun (W : World) (o : Nat) (hW : Below w.heap.size w W) (ho : Blk W o 3 (intA (fluxesV (loopsV bs N) (relV bs) a).1)) => dotFd_any W.heap.size (fluxesV (loopsV bs N) (relV bs) a).1 b (some ⟨o, 0, none⟩) TB bs.length bs.length bs.length cb W (intA_ints ho) ((hb.below (hW.mono hB)).more (Nat.le_trans hB hW.size)) (Nat.le_refl _) HFl.out hlb (Nat.le_refl _) (by omega) (fun k _ => hd1 k) (fun k hk => by have := hd2 k (by omega); unfold Wd; omega))
  have HV := Lib.hid (show energyF bs N a b = (dotV (fluxesV (loopsV bs N) (relV bs) a).1 b, (fluxesV (loopsV bs N) (relV bs) a).2) from rfl)
  clear hbk hfB hA hlo hha hod hlp hre hF hL hs hd1 hd2 hok ha hb hab hbb
  generalize energyF bs N a b = E at *
  generalize fluxesV (loopsV bs N) (relV bs) a = FV at *
  obtain ⟨F, D⟩ := FV
  dsimp only at *
  generalize dotV F b = dv at *
  go_enter Try.func36, Try.ntmps36
  go_wp2_with (first
    | (go_at_call 54; (go_must (refine HFx.out.mono ?_)); rintro e w1 ⟨o, rfl, hv1, ho1, hb1⟩; have HV1 := Lib.hid hv1; have HB1 := Lib.hid hb1; clear hv1 ho1 hb1)
    | (go_at_call 56; (go_must (refine (HDt.out _ _ HB1.out HV1.out).mono ?_)); rintro e w2 ⟨rfl, rfl⟩))
  go_ret2
  exact ⟨(by rw [HV.out]; rfl), HB1.out⟩

set_option maxHeartbeats 4000000 in
set_option maxRecDepth 100000 in
theorem EnergyOf_ok (B : Nat) (N : Nat) (bs : List FBr) (A : Option Addr) (n c : Nat) (w : World) (hr : CellsIn B w A (brsC bs)) (hB : B ≤ w.heap.size) (hn : bs.length = n) (hE : (netE (N : Int) bs).2 = 0) (V : Int × Int × Int) (hV : energyV bs N (trnV bs) (trnV bs) = V) :
    Calls Try.prog 16 #[.agg #[.int .i64 (N : Int), .slice A n c]] w fun e w' => e = .returned (.tuple #[.agg #[.int .i64 V.1, .int .i64 V.2.1], .int .i64 V.2.2]) ∧ Below w.heap.size w w' := by
  have hok := net_ok hE
  have hm := hok.m
  have HE := Lib.hid (fun W (hW : Below w.heap.size w W) => (show Calls Try.prog 33 #[.agg #[.int .i64 (N : Int), .slice A n c]] W fun e w' => e = .returned (.int .i64 0) ∧ Below W.heap.size W w' from by
    have h := netErr_any B N bs A n c W (hr.below (hW.mono hB)) (Nat.le_trans hB hW.size) hn (by omega)
    rwa [hE] at h))
  have HNw := Lib.hid (fun W (hW : Below w.heap.size w W) => newField_any B N bs A n c W hok (hr.below (hW.mono hB)) (Nat.le_trans hB hW.size) hn)
  have HOw := Lib.hid (fun f W (hF : FldAt W.heap.size N bs f W) => (show Calls Try.prog 37 #[.pointer (some ⟨f, 0, none⟩)] W fun e w' => ∃ A2 c2, e = .returned (.slice A2 bs.length c2) ∧ IntsIn w'.heap.size w' A2 (trnV bs) ∧ Below W.heap.size W w' from by
    obtain ⟨A, gl, gh, AO, LA, RA, c, cl, ch, cO, lc, rc, hbk, hfB, hA, _⟩ := hF.ex
    exact ownFd_any W.heap.size f N bs A bs.length c _ _ _ _ _ W hbk hA (Nat.le_refl _) rfl (by omega)))
  have HEn := Lib.hid (fun f TA TB ca cb W (hF : FldAt W.heap.size N bs f W) (h1 : IntsIn W.heap.size W TA (trnV bs)) (h2 : IntsIn W.heap.size W TB (trnV bs)) => energyFd_any W.heap.size N f bs (trnV bs) (trnV bs) TA TB ca cb W hok hF (Nat.le_refl _) h1 h2 (trn_len bs) (trn_len bs) (trn_small hok) (trn_small hok))
  obtain ⟨q1, q2⟩ := flux_dot hok (own_small hok) (trn_small hok)
  have hden := (own_small hok).den
  have HFr := Lib.hid (fun W => fractionFd_any (energyF bs N (trnV bs) (trnV bs)).1 (energyF bs N (trnV bs) (trnV bs)).2 (by
    have h := q2 (fluxesV (loopsV bs N) (relV bs) (trnV bs)).1.length (by rw [flx_len, trn_len]; exact hm)
    show WF (dotV _ _)
    unfold dotV WF
    omega) (show 0 < (elimV (eqsV (loopsV bs N) (relV bs) (trnV bs))).2 by omega) (show SmF (elimV (eqsV (loopsV bs N) (relV bs) (trnV bs))).2 by unfold SmF; omega) W)
  rw [show fracV (energyF bs N (trnV bs) (trnV bs)).1 (energyF bs N (trnV bs) (trnV bs)).2 = V from hV] at HFr
  have HB0 := Lib.hid (show Below w.heap.size w ((w.alloc (.cells #[.int .i64 (N : Int), .slice A n c] 49)).alloc (.cells #[.int .i64 0, .int .i64 0] 32)) from pa (pa pr))
  have R0 := Lib.hid (show Blk ((w.alloc (.cells #[.int .i64 (N : Int), .slice A n c] 49)).alloc (.cells #[.int .i64 0, .int .i64 0] 32)) w.heap.size 49 #[.int .i64 (N : Int), .slice A n c] from (Blk.newAt rfl).alloc)
  have Z0 := Lib.hid (show Blk ((w.alloc (.cells #[.int .i64 (N : Int), .slice A n c] 49)).alloc (.cells #[.int .i64 0, .int .i64 0] 32)) (w.heap.size + 1) 32 #[.int .i64 0, .int .i64 0] from Blk.newAt (by simp))
  clear hok hr hE hn q1 q2 hden hV
  generalize energyF bs N (trnV bs) (trnV bs) = EF at *
  obtain ⟨num, den⟩ := EF
  obtain ⟨vn, vd, ve⟩ := V
  dsimp only at *
  go_enter Try.func16, Try.ntmps16
  go_wp2_with (first
    | (go_at_call 33; (go_must (refine (HE.out _ HB0.out).mono ?_)); rintro e w1 ⟨rfl, hb1⟩; have HB1 := Lib.hid (pt HB0.out hb1); have R1 := Lib.hid (R0.out.past hb1); have Z1 := Lib.hid (Z0.out.past hb1); clear hb1; have x0 := R1.out.cellAt 0 rfl; have x1 := R1.out.cellAt 1 rfl; have xl := R1.out.lt)
    | (go_at_call 34; (go_must (refine (HNw.out _ HB1.out).mono ?_)); rintro e w2 ⟨f, rfl, hf2, hb2⟩; have HF2 := Lib.hid hf2; have HB2 := Lib.hid (pt HB1.out hb2); have Z2 := Lib.hid (Z1.out.past hb2); have hmark := True.intro; clear hf2 hb2)
    | (go_at_call 37; (clear hmark); (go_must (refine (HOw.out _ _ HF2.out).mono ?_)); rintro e w3 ⟨A3, c3, rfl, h3, hb3⟩; have H3 := Lib.hid h3; have HF3 := Lib.hid (HF2.out.past (Nat.le_refl _) hb3); have HB3 := Lib.hid (pt HB2.out hb3); have Z3 := Lib.hid (Z2.out.past hb3); clear h3 hb3)
    | (go_at_call 37; (go_must (refine (HOw.out _ _ HF3.out).mono ?_)); rintro e w4 ⟨A4, c4, rfl, h4, hb4⟩; have H4 := Lib.hid h4; have H34 := Lib.hid ((H3.out.below hb4).more hb4.size); have HF4 := Lib.hid (HF3.out.past (Nat.le_refl _) hb4); have HB4 := Lib.hid (pt HB3.out hb4); have Z4 := Lib.hid (Z3.out.past hb4); clear h4 hb4)
    | (go_at_call 36; (go_must (refine (HEn.out _ _ _ _ _ _ HF4.out H34.out H4.out).mono ?_)); rintro e w5 ⟨rfl, hb5⟩; have HB5 := Lib.hid (pt HB4.out hb5); have Z5 := Lib.hid (Z4.out.past hb5); clear hb5)
    | (go_at_call 30; (go_must (refine (HFr.out _).mono ?_)); rintro e w6 ⟨rfl, hb6⟩; have HB6 := Lib.hid (pt HB5.out hb6); have Z6 := Lib.hid (Z5.out.past hb6); clear hb6)
    | ((with_reducible refine store_blk (T := 32) (x := .tmp 2) (y := .tmp 23) (vs := #[.int .i64 vn, .int .i64 vd]) Z6.out ?_ ?_ ?_ ?_ ?_ ?_); (focus rfl); (focus exact frac_size); (focus (simp [Value.oneCell']; done)); (focus (first | rfl | (go_simp; done))); (focus (first | rfl | (go_simp; done))); intro WF RF PF))
  have r0 := RF.cellAt 0 rfl
  have r1 := RF.cellAt 1 rfl
  refine bodyPost_ret (v := .tuple #[.agg #[.int .i64 vn, .int .i64 vd], .int .i64 ve]) (by simp [results, Try.results16, go_sem, r0, r1]) rfl ?_
  exact ⟨rfl, pp HB6.out PF (by omega)⟩
end Go.Proofs.Ytapegimghfflhaa
end
