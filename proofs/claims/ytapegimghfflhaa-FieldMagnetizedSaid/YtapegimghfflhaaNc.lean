/- Contract: a slice's copy (slices.Clone at numbers) is a row of the call's own with the same numbers.
Contracts of the specification's helpers: Ints, Has, CopyInts (as for chapter 7).
Contracts: the example networks and curves; two solutions compared. -/
import Derived.Test.YtapegimghfflhaaMc
import Derived.Test.YtapegimghfflhaaM7
import Derived.Deep.QuietTactic
import Derived.BigQuiet
import Derived.Test.YtapegimghfflhaaN4
import Derived.Test.YtapegimghfflhaaNb

section
namespace Go.Proofs.Ytapegimghfflhaa
open Go.RowKit

/-- A result that is a new row of numbers. -/
def RowRet (w : World) (xs : List Int) (e : Ending) (w' : World) : Prop :=
  ∃ v, e = .returned v ∧ w'.ownsRow w.heap.size 3 1 v xs.length (xs.map (Value.int .i64)) ∧ Below w.heap.size w w'

end Go.Proofs.Ytapegimghfflhaa
end

section
namespace Go.Proofs.Ytapegimghfflhaa
open Go.RowKit

def hasB (xs : List Int) (x : Int) : Bool := xs.contains x
def intsB (xs ys : List Int) : Bool := decide (xs = ys)

theorem list_eq_of {α : Type} (d : α) {xs ys : List α} (hl : xs.length = ys.length) (h : ∀ j, j < xs.length → xs.getD j d = ys.getD j d) : xs = ys := by
  apply List.ext_getElem hl
  intro j h1 h2
  have := h j h1
  simpa [List.getD, h1, h2] using this

set_option maxHeartbeats 1000000 in
theorem ints_any (B : Nat) (A A2 : Option Addr) (c c2 : Nat) (xs ys : List Int) (w : World) (hr : IntsIn B w A xs) (hr2 : IntsIn B w A2 ys) (hm : xs.length ≤ 100000) :
    Calls Try.prog 46 #[.slice A xs.length c, .slice A2 ys.length c2] w fun e w' => e = .returned (.bool (intsB xs ys)) ∧ Below w.heap.size w w' := by
  by_cases hl : xs.length = ys.length
  · have hne : ((xs.length : Int) != (ys.length : Int)) = false := by simp [hl]
    have HL := Lib.hid hl
    have hle : xs.length ≤ ys.length := by omega
    have hge : ys.length ≤ xs.length := by omega
    have HR := Lib.hid hr
    have HR2 := Lib.hid hr2
    clear hl hr hr2
    go_enter Try.func46, Try.ntmps46
    go_wp2
    go_loopw [5] (fun i wr => ∃ k : Nat, k ≤ xs.length ∧ i = .int .i64 k ∧ (∀ j, j < k → xs.getD j 0 = ys.getD j 0) ∧ Below w.heap.size w wr ∧ IntsIn B wr A xs ∧ IntsIn B wr A2 ys) (fun i _ => xs.length - (intOf i).toNat)
    case atStart => exact ⟨0, Nat.zero_le _, rfl, fun j hj => by omega, pr, HR.out, HR2.out⟩
    case round =>
      obtain ⟨k, hk, rfl, hf, hq, hr, hr2⟩ := hrel
      by_cases hlt : k < xs.length
      · obtain ⟨b, off, rfl, hb, hc⟩ := hr.at_ hlt
        obtain ⟨b2, off2, rfl, hb2, hc2⟩ := hr2.at_ (k := k) (by omega)
        have hcell := hc k hlt
        have hcell2 := hc2 k (by omega)
        have HF := Lib.hid hf
        have HX := Lib.hid (show ∀ nq, IntsIn B (wr.drewN nq) (some ⟨b, off, none⟩) xs ∧ IntsIn B (wr.drewN nq) (some ⟨b2, off2, none⟩) ys from fun nq => ⟨hr, hr2⟩)
        have k0 : (0 : Int) ≤ (k : Int) := by omega
        have k1 : (k : Int) < (xs.length : Int) := by omega
        have k2 : (k : Int) < (ys.length : Int) := by omega
        have HX0 := Lib.hid (show ∀ e, intsB xs ys = e ↔ decide (xs = ys) = e from fun _ => Iff.rfl)
        clear hc hc2 hf hr hr2
        by_cases hxy : xs.getD k 0 = ys.getD k 0
        · have HXY := Lib.hid hxy
          have hbf : (xs.getD k 0 != ys.getD k 0) = false := by rw [hxy]; exact bne_self_eq_false _
          clear hxy
          generalize hx : xs.getD k 0 = x at *
          generalize hy : ys.getD k 0 = y at *
          have HXx := Lib.hid hx
          have HYy := Lib.hid hy
          clear hx hy
          go_wp2
          go_quiet (fail)
          go_wp2
          go_roundw
          case rel => exact ⟨k + 1, by omega, by go_num, fun j hj => by
            rcases Nat.lt_or_ge j k with h | h
            · exact HF.out j h
            · obtain rfl : j = k := by omega
              rw [HXx.out, HYy.out, HXY.out], hq.trans (below_drewN' (Below.refl _ _) _), (HX.out _).1, (HX.out _).2⟩
          case measure => simp [intOf]; omega
        · have HN := Lib.hid (show intsB xs ys = false from decide_eq_false fun e => hxy (by rw [e]))
          have hbt : (xs.getD k 0 != ys.getD k 0) = true := by simpa using hxy
          clear hxy
          generalize xs.getD k 0 = x at *
          generalize ys.getD k 0 = y at *
          go_wp2
          go_quiet (fail)
          go_wp2
          go_ret
          exact ⟨ret_bool HN.out.symm, hq.trans (below_drewN' (Below.refl _ _) _)⟩
      · have HN := Lib.hid (show intsB xs ys = true from decide_eq_true (list_eq_of 0 HL.out fun j hj => hf j (by omega)))
        clear hf
        go_wp2
        go_ret
        exact ⟨ret_bool HN.out.symm, hq⟩
  · have hne : ((xs.length : Int) != (ys.length : Int)) = true := by simp; omega
    have HN := Lib.hid (show intsB xs ys = false from decide_eq_false fun e => hl (by rw [e]))
    clear hl
    go_enter Try.func46, Try.ntmps46
    go_wp2
    go_ret
    exact ⟨ret_bool HN.out.symm, pr⟩

end Go.Proofs.Ytapegimghfflhaa
end

section
namespace Go.Proofs.Ytapegimghfflhaa
open Go.RowKit

theorem ownLit {w : World} {base size n c g : Nat} {e : TypeId} {cs : Array Value} (hb : Blk w g e cs) (hge : base ≤ g) (hn : n ≤ c) (hc : c ≤ maxLen) (hs : cs.size = c * size) (hnc : n = c) : w.ownsRow base e size (.slice (some ⟨g, 0, none⟩) n c) n cs.toList := by
  subst hnc
  have hl : cs.toList.length = n * size := by rw [Array.length_toList, hs]
  exact ⟨hl, .inr ⟨g, n, cs, rfl, hge, hb, hn, hc, hs, List.take_of_length_le (Nat.le_of_eq hl)⟩⟩
set_option maxHeartbeats 1000000 in
theorem Ring_any (w : World) : Calls Try.prog 18 #[] w fun e w' => ∃ A c, e = .returned (.agg #[.int .i64 2, .slice A 2 c]) ∧ w'.ownsRow w.heap.size 79 4 (.slice A 2 c) 2 (brsC ringN) ∧ Below w.heap.size w w' := by
  go_enter Try.func18, Try.ntmps18
  go_wp2
  have hB : Below w.heap.size w ((w.alloc (.cells #[.int .i64 2, .slice (some ⟨w.heap.size + 1, 0, none⟩) 2 2] 49)).alloc (.cells #[.int .i64 0, .int .i64 1, .int .i64 3, .int .i64 10, .int .i64 1, .int .i64 0, .int .i64 2, .int .i64 0] 79)) := pa (pa pr)
  have Z : Blk ((w.alloc (.cells #[.int .i64 2, .slice (some ⟨w.heap.size + 1, 0, none⟩) 2 2] 49)).alloc (.cells #[.int .i64 0, .int .i64 1, .int .i64 3, .int .i64 10, .int .i64 1, .int .i64 0, .int .i64 2, .int .i64 0] 79)) w.heap.size 49 #[.int .i64 2, .slice (some ⟨w.heap.size + 1, 0, none⟩) 2 2] := (Blk.newAt rfl).alloc
  have X : Blk ((w.alloc (.cells #[.int .i64 2, .slice (some ⟨w.heap.size + 1, 0, none⟩) 2 2] 49)).alloc (.cells #[.int .i64 0, .int .i64 1, .int .i64 3, .int .i64 10, .int .i64 1, .int .i64 0, .int .i64 2, .int .i64 0] 79)) (w.heap.size + 1) 79 #[.int .i64 0, .int .i64 1, .int .i64 3, .int .i64 10, .int .i64 1, .int .i64 0, .int .i64 2, .int .i64 0] := Blk.newAt (by simp)
  have r0 := Z.cellAt 0 rfl
  have r1 := Z.cellAt 1 rfl
  refine bodyPost_ret (v := .agg #[.int .i64 2, .slice (some ⟨w.heap.size + 1, 0, none⟩) 2 2]) (by simp [results, Try.results18, go_sem, r0, r1]) rfl ?_
  exact ⟨_, 2, rfl, ownLit X (by omega) (Nat.le_refl _) (by simp only [maxLen]; omega) rfl rfl, hB⟩
set_option maxHeartbeats 1000000 in
theorem Curve_any (w : World) : Calls Try.prog 20 #[] w fun e w' => ∃ A c, e = .returned (.agg #[.slice A 2 c]) ∧ CellsIn w'.heap.size w' A (termsC curveP) ∧ Below w.heap.size w w' := by
  go_enter Try.func20, Try.ntmps20
  go_wp2
  have hB : Below w.heap.size w ((w.alloc (.cells #[.slice (some ⟨w.heap.size + 1, 0, none⟩) 2 2] 24)).alloc (.cells #[.int .i64 10, .int .i64 5, .int .i64 20, .int .i64 25] 89)) := pa (pa pr)
  have Z : Blk ((w.alloc (.cells #[.slice (some ⟨w.heap.size + 1, 0, none⟩) 2 2] 24)).alloc (.cells #[.int .i64 10, .int .i64 5, .int .i64 20, .int .i64 25] 89)) w.heap.size 24 #[.slice (some ⟨w.heap.size + 1, 0, none⟩) 2 2] := (Blk.newAt rfl).alloc
  have X : Blk ((w.alloc (.cells #[.slice (some ⟨w.heap.size + 1, 0, none⟩) 2 2] 24)).alloc (.cells #[.int .i64 10, .int .i64 5, .int .i64 20, .int .i64 25] 89)) (w.heap.size + 1) 89 #[.int .i64 10, .int .i64 5, .int .i64 20, .int .i64 25] := Blk.newAt (by simp)
  have r0 := Z.cellAt 0 rfl
  refine bodyPost_ret (v := .agg #[.slice (some ⟨w.heap.size + 1, 0, none⟩) 2 2]) (by simp [results, Try.results20, go_sem, r0]) rfl ?_
  exact ⟨_, 2, rfl, cellsIn_of_own (ownLit (base := w.heap.size) (size := 2) (n := 2) (c := 2) X (by omega) (Nat.le_refl _) (by simp only [maxLen]; omega) rfl rfl), hB⟩
set_option maxHeartbeats 1000000 in
theorem High_any (w : World) : Calls Try.prog 22 #[] w fun e w' => ∃ A c, e = .returned (.agg #[.slice A 2 c]) ∧ CellsIn w'.heap.size w' A (termsC highP) ∧ Below w.heap.size w w' := by
  go_enter Try.func22, Try.ntmps22
  go_wp2
  have hB : Below w.heap.size w ((w.alloc (.cells #[.slice (some ⟨w.heap.size + 1, 0, none⟩) 2 2] 24)).alloc (.cells #[.int .i64 10, .int .i64 10, .int .i64 20, .int .i64 40] 89)) := pa (pa pr)
  have Z : Blk ((w.alloc (.cells #[.slice (some ⟨w.heap.size + 1, 0, none⟩) 2 2] 24)).alloc (.cells #[.int .i64 10, .int .i64 10, .int .i64 20, .int .i64 40] 89)) w.heap.size 24 #[.slice (some ⟨w.heap.size + 1, 0, none⟩) 2 2] := (Blk.newAt rfl).alloc
  have X : Blk ((w.alloc (.cells #[.slice (some ⟨w.heap.size + 1, 0, none⟩) 2 2] 24)).alloc (.cells #[.int .i64 10, .int .i64 10, .int .i64 20, .int .i64 40] 89)) (w.heap.size + 1) 89 #[.int .i64 10, .int .i64 10, .int .i64 20, .int .i64 40] := Blk.newAt (by simp)
  have r0 := Z.cellAt 0 rfl
  refine bodyPost_ret (v := .agg #[.slice (some ⟨w.heap.size + 1, 0, none⟩) 2 2]) (by simp [results, Try.results22, go_sem, r0]) rfl ?_
  exact ⟨_, 2, rfl, cellsIn_of_own (ownLit (base := w.heap.size) (size := 2) (n := 2) (c := 2) X (by omega) (Nat.le_refl _) (by simp only [maxLen]; omega) rfl rfl), hB⟩
set_option maxHeartbeats 2000000 in
theorem Three_any (w : World) : Calls Try.prog 15 #[] w fun e w' => ∃ A c, e = .returned (.agg #[.int .i64 2, .slice A 3 c]) ∧ w'.ownsRow w.heap.size 79 4 (.slice A 3 c) 3 (brsC threeN) ∧ Below w.heap.size w w' := by
  obtain ⟨j0, hj0, hjz, hjs, hjb⟩ := info_of (show (Try.prog.info? 79).map (fun i => (i.zero, i.size, i.bytes)) = some (some (.agg #[.int .i64 0, .int .i64 0, .int .i64 0, .int .i64 0]), 4, 32) by kernel_rfl)
  have HB0 := Lib.hid (show Below w.heap.size w (w.alloc (.cells #[.int .i64 0, .slice none 0 0] 49)) from pa pr)
  have Z0 := Lib.hid (show Blk (w.alloc (.cells #[.int .i64 0, .slice none 0 0] 49)) w.heap.size 49 #[.int .i64 0, .slice none 0 0] from Blk.newAt rfl)
  have hs0 : (w.alloc (.cells #[.int .i64 0, .slice none 0 0] 49)).heap.size = w.heap.size + 1 := by simp
  have HTh := Lib.hid (show brsC ringN ++ brU ⟨0, 1, 6, 0⟩ = brsC threeN from rfl)
  go_enter Try.func15, Try.ntmps15
  go_wp2_with (first
    | (go_at_call 18; (go_must (refine (Ring_any _).mono ?_)); rintro e w1 ⟨A, c, rfl, ho, hb1⟩; rw [hs0] at ho; have HO1 := Lib.hid ho; have HB1 := Lib.hid (pt HB0.out hb1); have Z1 := Lib.hid (Z0.out.past hb1); have hs1 := hb1.size; rw [hs0] at hs1; have HS1 := Lib.hid hs1; clear ho hb1 hs1 hs0; have HO2 := Lib.hid (show ((w1.alloc (.cells #[.int .i64 2, .slice A 2 c] 49)).alloc (.cells #[.int .i64 0, .int .i64 1, .int .i64 6, .int .i64 0] 79)).ownsRow (w.heap.size + 1) 79 4 (.slice A 2 c) 2 (brsC ringN) from ownPast (pa (pa pr)) HO1.out); have T2 := Lib.hid (show Blk ((w1.alloc (.cells #[.int .i64 2, .slice A 2 c] 49)).alloc (.cells #[.int .i64 0, .int .i64 1, .int .i64 6, .int .i64 0] 79)) w1.heap.size 49 #[.int .i64 2, .slice A 2 c] from (Blk.newAt rfl).alloc); have Z2 := Lib.hid (show Blk ((w1.alloc (.cells #[.int .i64 2, .slice A 2 c] 49)).alloc (.cells #[.int .i64 0, .int .i64 1, .int .i64 6, .int .i64 0] 79)) w.heap.size 49 #[.int .i64 0, .slice none 0 0] from Z1.out.alloc.alloc); have HB2 := Lib.hid (show Below w.heap.size w ((w1.alloc (.cells #[.int .i64 2, .slice A 2 c] 49)).alloc (.cells #[.int .i64 0, .int .i64 1, .int .i64 6, .int .i64 0] 79)) from pa (pa HB1.out)); have hcn := cells_newO (w1.alloc (.cells #[.int .i64 2, .slice A 2 c] 49)) 79 #[.int .i64 0, .int .i64 1, .int .i64 6, .int .i64 0]; rw [show (w1.alloc (.cells #[.int .i64 2, .slice A 2 c] 49)).heap.size = w1.heap.size + 1 by simp] at hcn; have HCn := Lib.hid hcn; clear hcn)
    | (at_builtin; (go_must (refine wpList_append_cells _ rfl (.tmp 4) (.tmp 6) _ rfl (w.heap.size + 1) 79 j0 _ 4 32 Try.underlying47 hj0 hjz hjs hjb rfl (by omega) (.slice A 2 c) 2 (brsC ringN) rfl HO2.out (w1.heap.size + 1 + 1) (some ⟨w1.heap.size + 1, 0, none⟩) 1 1 (brU ⟨0, 1, 6, 0⟩) rfl HCn.out rfl (br_one _) (by simp only [maxLen]; omega) (by omega) (by have := HS1.out; simp; omega) ?_)); intro v4 w4 hown4 hg4 _; obtain ⟨A4, c4, rfl, hc4, _⟩ := own_form hown4; have HO4 := Lib.hid hown4; have T4 := Lib.hid (T2.out.grown hg4 (ownNe HO2.out T2.out (by decide))); have Z4 := Lib.hid (Z2.out.grown hg4 (ownNe HO2.out Z2.out (by decide))); have HB4 := Lib.hid (pg HB2.out HO2.out (by omega) hg4); have t0 := T4.out.cellAt 0 rfl; have t1 := T4.out.cellAt 1 rfl; have tf := T4.out.frozen 1; have tl := T4.out.lt; have Z5 := Lib.hid (show Blk (w4.setCell ⟨w1.heap.size, 1, none⟩ (.slice A4 3 c4)) w.heap.size 49 #[.int .i64 0, .slice none 0 0] from Z4.out.far (p := ⟨w1.heap.size, 1, none⟩) (by have := HS1.out; dsimp only; omega)); clear hown4 hg4)
    | ((with_reducible refine store_blk (T := 49) (x := .tmp 0) (y := .tmp 9) (vs := #[.int .i64 2, .slice A4 3 c4]) Z5.out ?_ ?_ ?_ ?_ ?_ ?_); (focus rfl); (focus exact net_size); (focus (simp [Value.oneCell']; done)); (focus (first | rfl | (go_simp; done))); (focus (first | rfl | (go_simp; done))); intro WF RF PF))
  have r0 := RF.cellAt 0 rfl
  have r1 := RF.cellAt 1 rfl
  refine bodyPost_ret (v := .agg #[.int .i64 2, .slice A4 3 c4]) (by simp [results, Try.results15, go_sem, r0, r1]) rfl ?_
  refine ⟨A4, c4, rfl, ?_, (HB4.out.setCell (p := ⟨w1.heap.size, 1, none⟩) (by have := HS1.out; dsimp only; omega) _).trans (PF.below _ (Nat.le_refl _))⟩
  have h1 := HO4.out
  rw [show brsC ringN ++ brU ⟨0, 1, 6, 0⟩ = brsC threeN from HTh.out] at h1
  exact ownDown (ownPut (ownOther h1 (q := ⟨w1.heap.size, 1, none⟩) (ownNe h1 T4.out (by decide)).symm _) PF (by omega)) (by omega)
theorem ints_eq (B : Nat) (A A2 : Option Addr) (n c c2 : Nat) (xs : List Int) (w : World) (hr : IntsIn B w A xs) (hr2 : IntsIn B w A2 xs) (hn : xs.length = n) (hm : n ≤ 1000) :
    Calls Try.prog 46 #[.slice A n c, .slice A2 n c2] w fun e w' => e = .returned (.bool true) ∧ Below w.heap.size w w' := by
  subst hn
  have h := ints_any B A A2 c c2 xs xs w hr hr2 (by omega)
  rwa [show intsB xs xs = true from decide_eq_true rfl] at h
set_option maxHeartbeats 2000000 in
theorem sameSol_eq (B : Nat) (d : Int) (P F : List Int) (A1 A2 A3 A4 : Option Addr) (n m c1 c2 c3 c4 : Nat) (w : World) (h1 : IntsIn B w A1 P) (h2 : IntsIn B w A2 F) (h3 : IntsIn B w A3 P) (h4 : IntsIn B w A4 F) (hB : B ≤ w.heap.size) (hn : P.length = n) (hm : F.length = m) (hn9 : n ≤ 1000) (hm9 : m ≤ 1000) :
    Calls Try.prog 23 #[.agg #[.int .i64 d, .slice A1 n c1, .slice A2 m c2], .agg #[.int .i64 d, .slice A3 n c3, .slice A4 m c4]] w fun e w' => e = .returned (.bool true) ∧ Below w.heap.size w w' := by
  have HP := Lib.hid (fun W (hW : Below w.heap.size w W) => ints_eq B A1 A3 n c1 c3 P W (h1.below (hW.mono hB)) (h3.below (hW.mono hB)) hn hn9)
  have HF := Lib.hid (fun W (hW : Below w.heap.size w W) => ints_eq B A2 A4 m c2 c4 F W (h2.below (hW.mono hB)) (h4.below (hW.mono hB)) hm hm9)
  have HB0 := Lib.hid (show Below w.heap.size w ((w.alloc (.cells #[.int .i64 d, .slice A1 n c1, .slice A2 m c2] 44)).alloc (.cells #[.int .i64 d, .slice A3 n c3, .slice A4 m c4] 44)) from pa (pa pr))
  have R0 := Lib.hid (show Blk ((w.alloc (.cells #[.int .i64 d, .slice A1 n c1, .slice A2 m c2] 44)).alloc (.cells #[.int .i64 d, .slice A3 n c3, .slice A4 m c4] 44)) w.heap.size 44 #[.int .i64 d, .slice A1 n c1, .slice A2 m c2] from (Blk.newAt rfl).alloc)
  have R1 := Lib.hid (show Blk ((w.alloc (.cells #[.int .i64 d, .slice A1 n c1, .slice A2 m c2] 44)).alloc (.cells #[.int .i64 d, .slice A3 n c3, .slice A4 m c4] 44)) (w.heap.size + 1) 44 #[.int .i64 d, .slice A3 n c3, .slice A4 m c4] from Blk.newAt (by simp))
  have hmk := True.intro
  clear h1 h2 h3 h4 hn hm
  go_enter Try.func23, Try.ntmps23
  go_wp2_with (first
    | (go_at_call 46; (clear hmk); (refine (HP.out _ HB0.out).mono ?_); rintro e w1 ⟨rfl, hb1⟩; have HB1 := Lib.hid (pt HB0.out hb1); have S0 := Lib.hid (R0.out.past hb1); have S1 := Lib.hid (R1.out.past hb1); clear hb1; have x2 := S0.out.cellAt 2 rfl; have xl := S0.out.lt; have y2 := S1.out.cellAt 2 rfl; have yl := S1.out.lt)
    | (go_at_call 46; (go_must (refine (HF.out _ HB1.out).mono ?_)); rintro e w2 ⟨rfl, hb2⟩; have HB2 := Lib.hid (pt HB1.out hb2); clear hb2))
  go_ret
  exact ⟨rfl, HB2.out⟩
end Go.Proofs.Ytapegimghfflhaa
end
