/- Contracts: a plan checked without the index of a task; the end of a task; the end of a schedule. -/
import Derived.Test.YtlgioldmjohhlaaRTails
namespace Go.Proofs.Ytlgioldmjohhlaa
open Go.RowKit Go.Shelf

set_option maxHeartbeats 2000000 in
set_option maxRecDepth 100000 in
theorem opened_any (B : Nat) (ts : List Task) (A : Option Addr) (c : Nat) (m : Int) (w : World) (hr : TasksIn B w A ts) (hB : B ≤ w.heap.size) (hs : SmallPlan ts) :
    Calls Try.prog 80 #[.agg #[.int .i64 m, .slice A ts.length c]] w fun e w' =>
      e = .returned (.tuple #[.agg #[.int .i64 m, .slice A ts.length c], .int .i64 (openV m ts).2]) ∧ Below w.heap.size w w' := by
  have hopen := fun w (h : TasksIn B w A ts) hB => open_any B ts A c m w h hB hs
  clear hs
  go_enter Try.func80, Try.ntmps80
  go_wp2_with (go_at_call 115; go_must (refine (hopen _ (hr.below ((pa (pa pr)).mono hB)) (by simp; omega)).mono ?_); rintro e w1 ⟨rfl, hb1⟩; have r1 := ((Blk.newAt (t := 107) (cs := #[.int .i64 0, .slice none 0 0]) (w := w.alloc (.cells #[.int .i64 m, .slice A ts.length c] 24)) (n := w.heap.size + 1) (by simp)).past hb1).alloc (o := .cells #[.int .i64 m, .slice A ts.length c] 107); have f0 := r1.frozen 0; have f1 := r1.frozen 1; have e0 := r1.cellAt 0 rfl; have e1 := r1.cellAt 1 rfl; have x1 := r1.lt)
  refine bodyPost_ret (v := .tuple #[.agg #[.int .i64 m, .slice A ts.length c], .int .i64 (openV m ts).2]) (by simp [results, Try.results80, go_sem, e0, e1]) rfl ⟨rfl, ?_⟩
  exact ps (ps (pa (pt (pa (pa pr)) hb1)) (by dsimp only; omega)) (by dsimp only; omega)

set_option maxHeartbeats 2000000 in
set_option maxRecDepth 100000 in
theorem end_any (B : Nat) (ts : List Task) (A : Option Addr) (c : Nat) (m : Int) (i : Nat) (s : Int) (w : World) (hr : TasksIn B w A ts) (hB : B ≤ w.heap.size) (hi : i < ts.length) (hs : IntKind.i64.wrap (s + (ts.getD i default).length) = s + (ts.getD i default).length) :
    Calls Try.prog 131 #[.agg #[.int .i64 m, .slice A ts.length c], .int .i64 (i : Int), .int .i64 s] w fun e w' =>
      e = .returned (.int .i64 (s + (ts.getD i default).length)) ∧ Below w.heap.size w w' := by
  obtain ⟨b, off, hA, hbB, hct⟩ := hr.at_ hi
  subst hA
  obtain ⟨_, t1, _, _⟩ := hct i hi
  clear hct hr
  have hbw := Nat.lt_of_lt_of_le hbB hB
  generalize (ts.getD i default).length = len at *
  have k2 : (0 : Int) ≤ (i : Int) := by omega
  have k3 : (i : Int) < (ts.length : Int) := by omega
  go_enter Try.func131, Try.ntmps131
  go_wp2
  go_ret
  exact ⟨rfl, pa pr⟩

def mx (a b : Int) : Int := if a < b then b else a
def lastR (ts : List Task) (xs : List Int) : Nat → Nat → Int → Int
  | 0, _, o => o
  | k + 1, i, o => lastR ts xs k (i + 1) (mx o (xs.getD i 0 + (ts.getD i default).length))
def lastV (ts : List Task) (xs : List Int) : Int := lastR ts xs xs.length 0 0

set_option maxHeartbeats 2000000 in
set_option maxRecDepth 100000 in
theorem last_any (B B2 : Nat) (ts : List Task) (xs : List Int) (A A2 : Option Addr) (c c2 : Nat) (m : Int) (w : World) (hr : TasksIn B w A ts) (hB : B ≤ w.heap.size) (hx : IntsIn B2 w A2 xs) (hB2 : B2 ≤ w.heap.size) (hl : LenOk ts) (hlen : xs.length ≤ ts.length) (h7 : ts.length ≤ 7)
    (hb : ∀ j, 0 ≤ xs.getD j 0 ∧ xs.getD j 0 ≤ 1000000000000) :
    Calls Try.prog 120 #[.agg #[.int .i64 m, .slice A ts.length c], .slice A2 xs.length c2] w fun e w' =>
      e = .returned (.int .i64 (lastV ts xs)) ∧ Below w.heap.size w w' := by
  have HL := Lib.hid hl
  have HX := Lib.hid hx
  have HR := Lib.hid hr
  have HV := Lib.hid (show lastV ts xs = lastR ts xs xs.length 0 0 from rfl)
  clear hl hx hr
  go_enter Try.func120, Try.ntmps120
  go_wp2
  go_loopw [5, 10] (fun ov ix wr => ∃ (o : Int) (i : Nat), ov = .int .i64 o ∧ ix = .int .i64 (i : Int) ∧ i ≤ xs.length ∧ lastR ts xs (xs.length - i) i o = lastV ts xs ∧ Blk wr w.heap.size 107 #[.int .i64 m, .slice A ts.length c] ∧ Below w.heap.size w wr) (fun _ ix _ => xs.length - (intOf ix).toNat)
  case atStart => exact ⟨0, 0, rfl, rfl, Nat.zero_le _, HV.out.symm, Blk.newAt rfl, pa pr⟩
  case round =>
    obtain ⟨o, i, rfl, rfl, hi, hrun, q0, hq⟩ := hrel
    have HRun := Lib.hid hrun
    clear hrun
    have d0 := q0.cellAt 0 rfl
    have d1 := q0.cellAt 1 rfl
    have x0 := q0.lt
    by_cases hlt : i < xs.length
    · obtain ⟨b, off, hA, hbB, hc⟩ := (HX.out.below (hq.mono hB2)).at_ hlt
      subst hA
      have hcell := hc i hlt
      have hbi := hb i
      have hli := HL.out i (by omega)
      have hstep : lastR ts xs (xs.length - (i + 1)) (i + 1) (mx o (xs.getD i 0 + (ts.getD i default).length)) = lastV ts xs := by
        rw [← HRun.out, show xs.length - i = xs.length - (i + 1) + 1 by omega]
        rfl
      have hend := fun W (hT : TasksIn B W A ts) (hBW : B ≤ W.heap.size) => end_any B ts A c m i (xs.getD i 0) W hT hBW (by omega) (IntWalk.i64_in _ (by omega))
      have HEnd := Lib.hid hend
      have HT := Lib.hid (HR.out.below (hq.mono hB))
      have HStep := Lib.hid hstep
      clear hstep hend hc
      generalize xs.getD i 0 = s at *
      generalize (ts.getD i default).length = len at *
      have i0 : (0 : Int) ≤ (i : Int) := by omega
      go_wp2_with (go_at_call 131; refine (HEnd.out _ HT.out (Nat.le_trans hB hq.size)).mono ?_; rintro e w1 ⟨rfl, hb1⟩)
      go_roundw
      case rel => exact ⟨mx o (s + len), i + 1, rfl, by go_num, by omega, HStep.out, q0.past hb1, hq.trans (hb1.mono (Nat.le_of_lt x0))⟩
      case measure => simp [intOf]; omega
    · have hres : lastV ts xs = o := by rw [← HRun.out, show xs.length - i = 0 by omega]; rfl
      have HRes := Lib.hid hres
      clear HRun HV hres
      go_wp2
      go_ret
      exact ⟨ret_int HRes.out.symm, hq⟩

end Go.Proofs.Ytlgioldmjohhlaa
