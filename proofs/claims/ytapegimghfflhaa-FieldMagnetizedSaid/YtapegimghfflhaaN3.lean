/- Contracts: with, rangesErr, span (package field).
Contracts: rangesErr, span, EnergySpan (package field). -/
import Derived.Test.YtapegimghfflhaaN2

section
namespace Go.Proofs.Ytapegimghfflhaa
open Go.RowKit

theorem ownOther {w : World} {base size n : Nat} {e : TypeId} {v : Value} {xs : List Value} (ho : w.ownsRow base e size v n xs) {q : Addr} (hq : v.ownBlock ≠ some q.block) (u : Value) : (w.setCell q u).ownsRow base e size v n xs := by
  obtain ⟨h1, h2⟩ := ho
  refine ⟨h1, ?_⟩
  rcases h2 with h2 | ⟨g', cap, cur, h3, h4, h5, h6⟩
  · exact .inl h2
  · refine .inr ⟨g', cap, cur, h3, h4, ?_, h6⟩
    rw [Below.heap_setCell _ _ _ _ fun e' => hq ?_]
    · exact h5
    · rw [h3, e']; rfl
theorem with_next {bs : List FBr} {xs : List Int} {k : Nat} (h : k < bs.length) : (withV bs xs).take (k + 1) = (withV bs xs).take k ++ [{ bs.getD k default with r := xs.getD k 0 }] := by
  have h2 : k < (withV bs xs).length := by rw [withV_len]; exact h
  rw [List.take_succ_eq_append_getElem h2]
  have h3 := withV_at bs xs h
  rw [List.getD_eq_getElem?_getD, List.getElem?_eq_getElem h2] at h3
  simp only [Option.getD_some] at h3
  rw [h3]
theorem lowEnd_any (lo hi : Int) (w : World) : Calls Try.prog 41 #[.agg #[.int .i64 lo, .int .i64 hi]] w fun e w' => e = .returned (.int .i64 lo) ∧ Below w.heap.size w w' := by
  go_enter Try.func41, Try.ntmps41
  go_wp2
  go_ret
  exact ⟨rfl, pa pr⟩
theorem highEnd_any (lo hi : Int) (w : World) : Calls Try.prog 40 #[.agg #[.int .i64 lo, .int .i64 hi]] w fun e w' => e = .returned (.int .i64 hi) ∧ Below w.heap.size w w' := by
  go_enter Try.func40, Try.ntmps40
  go_wp2
  go_ret
  exact ⟨rfl, pa pr⟩
theorem rng_f {rs : List DTerm} {k : Nat} (h : k < rs.length) : (rs.map (·.f)).getD k 0 = (rs.getD k default).f := by simp [List.getD, h]
theorem rng_q {rs : List DTerm} {k : Nat} (h : k < rs.length) : (rs.map (·.q)).getD k 0 = (rs.getD k default).q := by simp [List.getD, h]
set_option maxHeartbeats 8000000 in
set_option maxRecDepth 100000 in
theorem with_low (B : Nat) (N : Int) (bs : List FBr) (rs : List DTerm) (A RA : Option Addr) (n c rc : Nat) (w : World) (hr : CellsIn B w A (brsC bs)) (hR : CellsIn B w RA (termsC rs)) (hB : B ≤ w.heap.size) (hn : bs.length = n) (hrn : rs.length = n) (hm : n ≤ 7) :
    Calls Try.prog 39 #[.agg #[.int .i64 N, .slice A n c], .slice RA n rc, .func (.func 41) #[] #[]] w fun e w' => ∃ A2 c2, e = .returned (.agg #[.int .i64 N, .slice A2 n c2]) ∧ w'.ownsRow w.heap.size 79 4 (.slice A2 n c2) n (brsC (withV bs (rs.map (·.f)))) ∧ Below w.heap.size w w' := by
  obtain ⟨j0, hj0, hjz, hjs, hjb⟩ := info_of (show (Try.prog.info? 79).map (fun i => (i.zero, i.size, i.bytes)) = some (some (.agg #[.int .i64 0, .int .i64 0, .int .i64 0, .int .i64 0]), 4, 32) by kernel_rfl)
  have HX := Lib.hid (fun W (hW : Below w.heap.size w W) => hr.below (hW.mono hB))
  have HR := Lib.hid (fun W (hW : Below w.heap.size w W) => hR.below (hW.mono hB))
  have HN := Lib.hid hn
  have HRN := Lib.hid hrn
  clear hr hR hn hrn
  go_enter Try.func39, Try.ntmps39
  go_wp2
  have HB0 := Lib.hid (show Below w.heap.size w (((w.alloc (.cells #[.int .i64 N, .slice A n c] 49)).alloc (.cells #[.int .i64 0, .slice none 0 0] 49)).alloc (.cells #[.int .i64 N, .slice none 0 0] 49)) from pa (pa (pa pr)))
  have R0 := Lib.hid (show Blk (((w.alloc (.cells #[.int .i64 N, .slice A n c] 49)).alloc (.cells #[.int .i64 0, .slice none 0 0] 49)).alloc (.cells #[.int .i64 N, .slice none 0 0] 49)) w.heap.size 49 #[.int .i64 N, .slice A n c] from ((Blk.newAt rfl).alloc).alloc)
  have Z0 := Lib.hid (show Blk (((w.alloc (.cells #[.int .i64 N, .slice A n c] 49)).alloc (.cells #[.int .i64 0, .slice none 0 0] 49)).alloc (.cells #[.int .i64 N, .slice none 0 0] 49)) (w.heap.size + 1) 49 #[.int .i64 0, .slice none 0 0] from (Blk.newAt (by simp)).alloc)
  have O0 := Lib.hid (show Blk (((w.alloc (.cells #[.int .i64 N, .slice A n c] 49)).alloc (.cells #[.int .i64 0, .slice none 0 0] 49)).alloc (.cells #[.int .i64 N, .slice none 0 0] 49)) (w.heap.size + 1 + 1) 49 #[.int .i64 N, .slice none 0 0] from Blk.newAt (by simp))
  have hsz : (((w.alloc (.cells #[.int .i64 N, .slice A n c] 49)).alloc (.cells #[.int .i64 0, .slice none 0 0] 49)).alloc (.cells #[.int .i64 N, .slice none 0 0] 49)).heap.size = w.heap.size + 1 + 1 + 1 := by simp
  generalize ((w.alloc (.cells #[.int .i64 N, .slice A n c] 49)).alloc (.cells #[.int .i64 0, .slice none 0 0] 49)).alloc (.cells #[.int .i64 N, .slice none 0 0] 49) = w3 at *
  generalize hobe : w.heap.size + 1 + 1 = ob at *
  have hob : w.heap.size + 1 < ob := by omega
  have hob1 : ob < w3.heap.size := O0.out.lt
  clear hobe hsz
  have HQb := Lib.hid (show ∃ q, q = w3.heap.size from ⟨_, rfl⟩)
  obtain ⟨qb, hqb⟩ := HQb.out
  have HQe := Lib.hid hqb
  rw [← hqb] at hob1
  clear hqb HQb
  go_loopw [16] (fun iv wr => ∃ (k : Nat) (A2 : Option Addr) (c2 : Nat), iv = .int .i64 (k : Int) ∧ k ≤ n ∧ Blk wr ob 49 #[.int .i64 N, .slice A2 k c2] ∧ wr.ownsRow qb 79 4 (.slice A2 k c2) k (brsC ((withV bs (rs.map (·.f))).take k)) ∧ Below ob w3 wr ∧ qb ≤ wr.heap.size) (fun iv _ => n - (intOf iv).toNat)
  case atStart => exact ⟨0, none, 0, rfl, Nat.zero_le _, O0.out, World.ownsRow_nil _ _ _ _, Below.refl _ _, by rw [HQe.out]; exact Nat.le_refl _⟩
  case round =>
    clear O0
    obtain ⟨k, A2, c2, rfl, hk, hbo, hown, hq, hqs⟩ := hrel
    have HBo := Lib.hid hbo
    have HOw := Lib.hid hown
    have HQ := Lib.hid hq
    have HW := Lib.hid (show Below w.heap.size w wr from HB0.out.trans (hq.mono (by omega)))
    clear hbo hown hq
    by_cases hlt : k < n
    · have hk' : k < bs.length := by rw [HN.out]; exact hlt
      have hkr : k < rs.length := by rw [HRN.out]; exact hlt
      obtain ⟨bb, ob2, hAe, hbb, hcb⟩ := brs_at (HX.out wr HW.out) hk'
      obtain ⟨u0, u1, u2, u3⟩ := hcb k hk'
      obtain ⟨b2, o2, hRe, hb2, hcr⟩ := terms_at (HR.out wr HW.out) hkr
      obtain ⟨v0, v1⟩ := hcr k hkr
      have hBw := Nat.le_trans hB HW.out.size
      have hbbw : bb < wr.heap.size := Nat.lt_of_lt_of_le hbb hBw
      have hb2w : b2 < wr.heap.size := Nat.lt_of_lt_of_le hb2 hBw
      have HNx := Lib.hid (with_next (xs := rs.map (·.f)) hk')
      rw [rng_f hkr] at HNx
      have k0 : (0 : Int) ≤ (k : Int) := by omega
      have k1 : (k : Int) < (n : Int) := by omega
      clear hcb hcr hbb hb2 hBw
      generalize bs.getD k default = x at *
      generalize rs.getD k default = y at *
      obtain ⟨xa, xb, xr, xt⟩ := x
      obtain ⟨ylo, yhi⟩ := y
      dsimp only at *
      subst hAe
      subst hRe
      have HP1 := Lib.hid (show Blk (wr.alloc (.cells #[.int .i64 xa, .int .i64 xb, .int .i64 xr, .int .i64 xt] 79)) wr.heap.size 79 #[.int .i64 xa, .int .i64 xb, .int .i64 xr, .int .i64 xt] from Blk.newAt rfl)
      have HBn := Lib.hid (show Below wr.heap.size wr (wr.alloc (.cells #[.int .i64 xa, .int .i64 xb, .int .i64 xr, .int .i64 xt] 79)) from pa pr)
      have HEd := Lib.hid (fun W => lowEnd_any ylo yhi W)
      have hne : (Value.slice A2 k c2).ownBlock ≠ some wr.heap.size := fun e => by
        have := (HOw.out.lt _ e).2
        omega
      have HSt := Lib.hid (fun W (hW : Below wr.heap.size wr W) (hP : Blk W wr.heap.size 79 #[.int .i64 xa, .int .i64 xb, .int .i64 xr, .int .i64 xt]) => (show ((W.setCell ⟨wr.heap.size, 2, none⟩ (.int .i64 ylo)).alloc (.cells #[.int .i64 xa, .int .i64 xb, .int .i64 ylo, .int .i64 xt] 79)).ownsRow qb 79 4 (.slice A2 k c2) k (brsC ((withV bs (rs.map (·.f))).take k)) ∧ CellsIn (W.heap.size + 1) ((W.setCell ⟨wr.heap.size, 2, none⟩ (.int .i64 ylo)).alloc (.cells #[.int .i64 xa, .int .i64 xb, .int .i64 ylo, .int .i64 xt] 79)) (some ⟨W.heap.size, 0, none⟩) (brU ⟨xa, xb, ylo, xt⟩) ∧ Below ob w3 ((W.setCell ⟨wr.heap.size, 2, none⟩ (.int .i64 ylo)).alloc (.cells #[.int .i64 xa, .int .i64 xb, .int .i64 ylo, .int .i64 xt] 79)) ∧ Blk ((W.setCell ⟨wr.heap.size, 2, none⟩ (.int .i64 ylo)).alloc (.cells #[.int .i64 xa, .int .i64 xb, .int .i64 ylo, .int .i64 xt] 79)) ob 49 #[.int .i64 N, .slice A2 k c2] from by
        have hz : (W.setCell ⟨wr.heap.size, 2, none⟩ (.int .i64 ylo)).heap.size = W.heap.size := by simp
        have hc := cells_newO (W.setCell ⟨wr.heap.size, 2, none⟩ (.int .i64 ylo)) 79 #[.int .i64 xa, .int .i64 xb, .int .i64 ylo, .int .i64 xt]
        rw [hz] at hc
        refine ⟨ownPast (pa pr) (ownOther (ownPast hW HOw.out) hne _), hc, ((HQ.out.trans (hW.mono (by omega))).setCell (p := ⟨wr.heap.size, 2, none⟩) (by dsimp only; omega) _).alloc (by rw [hz]; have := hW.size; omega) _, ((HBo.out.past hW).far (p := ⟨wr.heap.size, 2, none⟩) (by dsimp only; omega)).alloc⟩))
      have hqs2 := hqs
      go_wp2_with (first
        | (go_at_call 41; (go_must (refine (HEd.out _).mono ?_)); rintro e w5 ⟨rfl, hb5⟩; have HP5 := Lib.hid (HP1.out.past hb5); have HB5 := Lib.hid (pt HBn.out hb5); clear hb5; have y0 := HP5.out.cellAt 0 rfl; have y1 := HP5.out.cellAt 1 rfl; have y2 := HP5.out.cellAt 2 rfl; have y3 := HP5.out.cellAt 3 rfl; have yf := HP5.out.frozen 2; have yl := HP5.out.lt; obtain ⟨s1, s2, s3, s4⟩ := HSt.out _ HB5.out HP5.out; have S1 := Lib.hid s1; have S2 := Lib.hid s2; have S3 := Lib.hid s3; have S4 := Lib.hid s4; clear s1 s2 s3 s4; have x1 := (HBo.out.past HB5.out).cellAt 1 rfl; have xl := (HBo.out.past HB5.out).lt; have hs5 : qb ≤ w5.heap.size := Nat.le_trans hqs2 HB5.out.size)
        | (at_builtin; (go_must (refine wpList_append_cells _ rfl (.tmp 29) (.tmp 31) _ rfl qb 79 j0 _ 4 32 Try.underlying47 hj0 hjz hjs hjb rfl (by omega) (.slice A2 k c2) k (brsC ((withV bs (rs.map (·.f))).take k)) rfl S1.out (w5.heap.size + 1) (some ⟨w5.heap.size, 0, none⟩) 1 1 (brU ⟨xa, xb, ylo, xt⟩) rfl S2.out rfl (br_one _) (by simp only [maxLen]; omega) (by omega) (by simp; omega) ?_)); intro v6 w6 hown6 hg6 _; obtain ⟨A6, c6, rfl, hc6, _⟩ := own_form hown6; have HO6 := Lib.hid hown6; have hb6 := S4.out.grown hg6 (ownNe S1.out S4.out (by decide)); have HB6 := Lib.hid hb6; have HQ6 := Lib.hid (S3.out.grown hg6 (by simp; omega) (fun q hq => Nat.le_trans (by omega) (S1.out.lt q hq).1)); have hs6 : qb ≤ w6.heap.size := Nat.le_trans (by simp; omega) hg6.size; have z1 := hb6.cellAt 1 rfl; have zf := hb6.frozen 1; have zl := hb6.lt; clear hown6 hg6 hb6))
      go_roundw
      case rel => exact ⟨k + 1, A6, c6, by go_num, by omega, HB6.out.set_ 1 (.slice A6 (k + 1) c6), by rw [HNx.out, show brsC ((withV bs (rs.map (·.f))).take k ++ [⟨xa, xb, ylo, xt⟩]) = brsC ((withV bs (rs.map (·.f))).take k) ++ brU ⟨xa, xb, ylo, xt⟩ from by simp [brsC]]; exact ownFar HO6.out (q := ⟨ob, 1, none⟩) (by dsimp only; omega) _, HQ6.out.setCell (p := ⟨ob, 1, none⟩) (Nat.le_refl _) _, by simpa using hs6⟩
      case measure => simp [intOf]; omega
    · obtain rfl : k = n := by omega
      have hzz : w.heap.size + 1 < w3.heap.size := Z0.out.lt
      have HZ := Lib.hid (show Blk wr (w.heap.size + 1) 49 #[.int .i64 0, .slice none 0 0] from (HQ.out.block _ hob).trans Z0.out)
      have x0 := HBo.out.cellAt 0 rfl
      have x1 := HBo.out.cellAt 1 rfl
      have xl := HBo.out.lt
      have e : (withV bs (rs.map (·.f))).take k = withV bs (rs.map (·.f)) := List.take_of_length_le (by rw [withV_len, HN.out]; exact Nat.le_refl _)
      rw [e] at HOw
      have hqw : w.heap.size ≤ qb := by omega
      go_wp2_with ((with_reducible refine store_blk (T := 49) (x := .tmp 6) (y := .tmp 35) (vs := #[.int .i64 N, .slice A2 k c2]) HZ.out ?_ ?_ ?_ ?_ ?_ ?_); (focus rfl); (focus exact net_size); (focus (simp [Value.oneCell']; done)); (focus (first | rfl | (go_simp; done))); (focus (first | rfl | (go_simp; done))); intro WF RF PF)
      have r0 := RF.cellAt 0 rfl
      have r1 := RF.cellAt 1 rfl
      refine bodyPost_ret (v := .agg #[.int .i64 N, .slice A2 k c2]) (by simp [results, Try.results39, go_sem, r0, r1]) rfl ?_
      exact ⟨A2, c2, rfl, ownDown (ownPut HOw.out PF (by omega)) hqw, pp HW.out PF (by omega)⟩
set_option maxHeartbeats 8000000 in
set_option maxRecDepth 100000 in
theorem with_high (B : Nat) (N : Int) (bs : List FBr) (rs : List DTerm) (A RA : Option Addr) (n c rc : Nat) (w : World) (hr : CellsIn B w A (brsC bs)) (hR : CellsIn B w RA (termsC rs)) (hB : B ≤ w.heap.size) (hn : bs.length = n) (hrn : rs.length = n) (hm : n ≤ 7) :
    Calls Try.prog 39 #[.agg #[.int .i64 N, .slice A n c], .slice RA n rc, .func (.func 40) #[] #[]] w fun e w' => ∃ A2 c2, e = .returned (.agg #[.int .i64 N, .slice A2 n c2]) ∧ w'.ownsRow w.heap.size 79 4 (.slice A2 n c2) n (brsC (withV bs (rs.map (·.q)))) ∧ Below w.heap.size w w' := by
  obtain ⟨j0, hj0, hjz, hjs, hjb⟩ := info_of (show (Try.prog.info? 79).map (fun i => (i.zero, i.size, i.bytes)) = some (some (.agg #[.int .i64 0, .int .i64 0, .int .i64 0, .int .i64 0]), 4, 32) by kernel_rfl)
  have HX := Lib.hid (fun W (hW : Below w.heap.size w W) => hr.below (hW.mono hB))
  have HR := Lib.hid (fun W (hW : Below w.heap.size w W) => hR.below (hW.mono hB))
  have HN := Lib.hid hn
  have HRN := Lib.hid hrn
  clear hr hR hn hrn
  go_enter Try.func39, Try.ntmps39
  go_wp2
  have HB0 := Lib.hid (show Below w.heap.size w (((w.alloc (.cells #[.int .i64 N, .slice A n c] 49)).alloc (.cells #[.int .i64 0, .slice none 0 0] 49)).alloc (.cells #[.int .i64 N, .slice none 0 0] 49)) from pa (pa (pa pr)))
  have R0 := Lib.hid (show Blk (((w.alloc (.cells #[.int .i64 N, .slice A n c] 49)).alloc (.cells #[.int .i64 0, .slice none 0 0] 49)).alloc (.cells #[.int .i64 N, .slice none 0 0] 49)) w.heap.size 49 #[.int .i64 N, .slice A n c] from ((Blk.newAt rfl).alloc).alloc)
  have Z0 := Lib.hid (show Blk (((w.alloc (.cells #[.int .i64 N, .slice A n c] 49)).alloc (.cells #[.int .i64 0, .slice none 0 0] 49)).alloc (.cells #[.int .i64 N, .slice none 0 0] 49)) (w.heap.size + 1) 49 #[.int .i64 0, .slice none 0 0] from (Blk.newAt (by simp)).alloc)
  have O0 := Lib.hid (show Blk (((w.alloc (.cells #[.int .i64 N, .slice A n c] 49)).alloc (.cells #[.int .i64 0, .slice none 0 0] 49)).alloc (.cells #[.int .i64 N, .slice none 0 0] 49)) (w.heap.size + 1 + 1) 49 #[.int .i64 N, .slice none 0 0] from Blk.newAt (by simp))
  have hsz : (((w.alloc (.cells #[.int .i64 N, .slice A n c] 49)).alloc (.cells #[.int .i64 0, .slice none 0 0] 49)).alloc (.cells #[.int .i64 N, .slice none 0 0] 49)).heap.size = w.heap.size + 1 + 1 + 1 := by simp
  generalize ((w.alloc (.cells #[.int .i64 N, .slice A n c] 49)).alloc (.cells #[.int .i64 0, .slice none 0 0] 49)).alloc (.cells #[.int .i64 N, .slice none 0 0] 49) = w3 at *
  generalize hobe : w.heap.size + 1 + 1 = ob at *
  have hob : w.heap.size + 1 < ob := by omega
  have hob1 : ob < w3.heap.size := O0.out.lt
  clear hobe hsz
  have HQb := Lib.hid (show ∃ q, q = w3.heap.size from ⟨_, rfl⟩)
  obtain ⟨qb, hqb⟩ := HQb.out
  have HQe := Lib.hid hqb
  rw [← hqb] at hob1
  clear hqb HQb
  go_loopw [16] (fun iv wr => ∃ (k : Nat) (A2 : Option Addr) (c2 : Nat), iv = .int .i64 (k : Int) ∧ k ≤ n ∧ Blk wr ob 49 #[.int .i64 N, .slice A2 k c2] ∧ wr.ownsRow qb 79 4 (.slice A2 k c2) k (brsC ((withV bs (rs.map (·.q))).take k)) ∧ Below ob w3 wr ∧ qb ≤ wr.heap.size) (fun iv _ => n - (intOf iv).toNat)
  case atStart => exact ⟨0, none, 0, rfl, Nat.zero_le _, O0.out, World.ownsRow_nil _ _ _ _, Below.refl _ _, by rw [HQe.out]; exact Nat.le_refl _⟩
  case round =>
    clear O0
    obtain ⟨k, A2, c2, rfl, hk, hbo, hown, hq, hqs⟩ := hrel
    have HBo := Lib.hid hbo
    have HOw := Lib.hid hown
    have HQ := Lib.hid hq
    have HW := Lib.hid (show Below w.heap.size w wr from HB0.out.trans (hq.mono (by omega)))
    clear hbo hown hq
    by_cases hlt : k < n
    · have hk' : k < bs.length := by rw [HN.out]; exact hlt
      have hkr : k < rs.length := by rw [HRN.out]; exact hlt
      obtain ⟨bb, ob2, hAe, hbb, hcb⟩ := brs_at (HX.out wr HW.out) hk'
      obtain ⟨u0, u1, u2, u3⟩ := hcb k hk'
      obtain ⟨b2, o2, hRe, hb2, hcr⟩ := terms_at (HR.out wr HW.out) hkr
      obtain ⟨v0, v1⟩ := hcr k hkr
      have hBw := Nat.le_trans hB HW.out.size
      have hbbw : bb < wr.heap.size := Nat.lt_of_lt_of_le hbb hBw
      have hb2w : b2 < wr.heap.size := Nat.lt_of_lt_of_le hb2 hBw
      have HNx := Lib.hid (with_next (xs := rs.map (·.q)) hk')
      rw [rng_q hkr] at HNx
      have k0 : (0 : Int) ≤ (k : Int) := by omega
      have k1 : (k : Int) < (n : Int) := by omega
      clear hcb hcr hbb hb2 hBw
      generalize bs.getD k default = x at *
      generalize rs.getD k default = y at *
      obtain ⟨xa, xb, xr, xt⟩ := x
      obtain ⟨ylo, yhi⟩ := y
      dsimp only at *
      subst hAe
      subst hRe
      have HP1 := Lib.hid (show Blk (wr.alloc (.cells #[.int .i64 xa, .int .i64 xb, .int .i64 xr, .int .i64 xt] 79)) wr.heap.size 79 #[.int .i64 xa, .int .i64 xb, .int .i64 xr, .int .i64 xt] from Blk.newAt rfl)
      have HBn := Lib.hid (show Below wr.heap.size wr (wr.alloc (.cells #[.int .i64 xa, .int .i64 xb, .int .i64 xr, .int .i64 xt] 79)) from pa pr)
      have HEd := Lib.hid (fun W => highEnd_any ylo yhi W)
      have hne : (Value.slice A2 k c2).ownBlock ≠ some wr.heap.size := fun e => by
        have := (HOw.out.lt _ e).2
        omega
      have HSt := Lib.hid (fun W (hW : Below wr.heap.size wr W) (hP : Blk W wr.heap.size 79 #[.int .i64 xa, .int .i64 xb, .int .i64 xr, .int .i64 xt]) => (show ((W.setCell ⟨wr.heap.size, 2, none⟩ (.int .i64 yhi)).alloc (.cells #[.int .i64 xa, .int .i64 xb, .int .i64 yhi, .int .i64 xt] 79)).ownsRow qb 79 4 (.slice A2 k c2) k (brsC ((withV bs (rs.map (·.q))).take k)) ∧ CellsIn (W.heap.size + 1) ((W.setCell ⟨wr.heap.size, 2, none⟩ (.int .i64 yhi)).alloc (.cells #[.int .i64 xa, .int .i64 xb, .int .i64 yhi, .int .i64 xt] 79)) (some ⟨W.heap.size, 0, none⟩) (brU ⟨xa, xb, yhi, xt⟩) ∧ Below ob w3 ((W.setCell ⟨wr.heap.size, 2, none⟩ (.int .i64 yhi)).alloc (.cells #[.int .i64 xa, .int .i64 xb, .int .i64 yhi, .int .i64 xt] 79)) ∧ Blk ((W.setCell ⟨wr.heap.size, 2, none⟩ (.int .i64 yhi)).alloc (.cells #[.int .i64 xa, .int .i64 xb, .int .i64 yhi, .int .i64 xt] 79)) ob 49 #[.int .i64 N, .slice A2 k c2] from by
        have hz : (W.setCell ⟨wr.heap.size, 2, none⟩ (.int .i64 yhi)).heap.size = W.heap.size := by simp
        have hc := cells_newO (W.setCell ⟨wr.heap.size, 2, none⟩ (.int .i64 yhi)) 79 #[.int .i64 xa, .int .i64 xb, .int .i64 yhi, .int .i64 xt]
        rw [hz] at hc
        refine ⟨ownPast (pa pr) (ownOther (ownPast hW HOw.out) hne _), hc, ((HQ.out.trans (hW.mono (by omega))).setCell (p := ⟨wr.heap.size, 2, none⟩) (by dsimp only; omega) _).alloc (by rw [hz]; have := hW.size; omega) _, ((HBo.out.past hW).far (p := ⟨wr.heap.size, 2, none⟩) (by dsimp only; omega)).alloc⟩))
      have hqs2 := hqs
      go_wp2_with (first
        | (go_at_call 40; (go_must (refine (HEd.out _).mono ?_)); rintro e w5 ⟨rfl, hb5⟩; have HP5 := Lib.hid (HP1.out.past hb5); have HB5 := Lib.hid (pt HBn.out hb5); clear hb5; have y0 := HP5.out.cellAt 0 rfl; have y1 := HP5.out.cellAt 1 rfl; have y2 := HP5.out.cellAt 2 rfl; have y3 := HP5.out.cellAt 3 rfl; have yf := HP5.out.frozen 2; have yl := HP5.out.lt; obtain ⟨s1, s2, s3, s4⟩ := HSt.out _ HB5.out HP5.out; have S1 := Lib.hid s1; have S2 := Lib.hid s2; have S3 := Lib.hid s3; have S4 := Lib.hid s4; clear s1 s2 s3 s4; have x1 := (HBo.out.past HB5.out).cellAt 1 rfl; have xl := (HBo.out.past HB5.out).lt; have hs5 : qb ≤ w5.heap.size := Nat.le_trans hqs2 HB5.out.size)
        | (at_builtin; (go_must (refine wpList_append_cells _ rfl (.tmp 29) (.tmp 31) _ rfl qb 79 j0 _ 4 32 Try.underlying47 hj0 hjz hjs hjb rfl (by omega) (.slice A2 k c2) k (brsC ((withV bs (rs.map (·.q))).take k)) rfl S1.out (w5.heap.size + 1) (some ⟨w5.heap.size, 0, none⟩) 1 1 (brU ⟨xa, xb, yhi, xt⟩) rfl S2.out rfl (br_one _) (by simp only [maxLen]; omega) (by omega) (by simp; omega) ?_)); intro v6 w6 hown6 hg6 _; obtain ⟨A6, c6, rfl, hc6, _⟩ := own_form hown6; have HO6 := Lib.hid hown6; have hb6 := S4.out.grown hg6 (ownNe S1.out S4.out (by decide)); have HB6 := Lib.hid hb6; have HQ6 := Lib.hid (S3.out.grown hg6 (by simp; omega) (fun q hq => Nat.le_trans (by omega) (S1.out.lt q hq).1)); have hs6 : qb ≤ w6.heap.size := Nat.le_trans (by simp; omega) hg6.size; have z1 := hb6.cellAt 1 rfl; have zf := hb6.frozen 1; have zl := hb6.lt; clear hown6 hg6 hb6))
      go_roundw
      case rel => exact ⟨k + 1, A6, c6, by go_num, by omega, HB6.out.set_ 1 (.slice A6 (k + 1) c6), by rw [HNx.out, show brsC ((withV bs (rs.map (·.q))).take k ++ [⟨xa, xb, yhi, xt⟩]) = brsC ((withV bs (rs.map (·.q))).take k) ++ brU ⟨xa, xb, yhi, xt⟩ from by simp [brsC]]; exact ownFar HO6.out (q := ⟨ob, 1, none⟩) (by dsimp only; omega) _, HQ6.out.setCell (p := ⟨ob, 1, none⟩) (Nat.le_refl _) _, by simpa using hs6⟩
      case measure => simp [intOf]; omega
    · obtain rfl : k = n := by omega
      have hzz : w.heap.size + 1 < w3.heap.size := Z0.out.lt
      have HZ := Lib.hid (show Blk wr (w.heap.size + 1) 49 #[.int .i64 0, .slice none 0 0] from (HQ.out.block _ hob).trans Z0.out)
      have x0 := HBo.out.cellAt 0 rfl
      have x1 := HBo.out.cellAt 1 rfl
      have xl := HBo.out.lt
      have e : (withV bs (rs.map (·.q))).take k = withV bs (rs.map (·.q)) := List.take_of_length_le (by rw [withV_len, HN.out]; exact Nat.le_refl _)
      rw [e] at HOw
      have hqw : w.heap.size ≤ qb := by omega
      go_wp2_with ((with_reducible refine store_blk (T := 49) (x := .tmp 6) (y := .tmp 35) (vs := #[.int .i64 N, .slice A2 k c2]) HZ.out ?_ ?_ ?_ ?_ ?_ ?_); (focus rfl); (focus exact net_size); (focus (simp [Value.oneCell']; done)); (focus (first | rfl | (go_simp; done))); (focus (first | rfl | (go_simp; done))); intro WF RF PF)
      have r0 := RF.cellAt 0 rfl
      have r1 := RF.cellAt 1 rfl
      refine bodyPost_ret (v := .agg #[.int .i64 N, .slice A2 k c2]) (by simp [results, Try.results39, go_sem, r0, r1]) rfl ?_
      exact ⟨A2, c2, rfl, ownDown (ownPut HOw.out PF (by omega)) hqw, pp HW.out PF (by omega)⟩
end Go.Proofs.Ytapegimghfflhaa
end

section
namespace Go.Proofs.Ytapegimghfflhaa
open Go.RowKit

/-- The error of one range, and of ranges that must be so many. -/
def rngE1 (x : DTerm) : Int := firstV [unlessV (withinB x.f 1 20 && withinB x.q 1 20) 2, unlessV (decide (x.f ≤ x.q)) 9]
def rngE (rs : List DTerm) (cnt : Int) : Int := if (rs.length : Int) = cnt then (scan (fun k => rngE1 (rs.getD k default)) rs.length 0).2 else 10
set_option maxHeartbeats 4000000 in
set_option maxRecDepth 100000 in
theorem rangesErr_any (B : Nat) (rs : List DTerm) (RA : Option Addr) (n rc : Nat) (cnt : Int) (w : World) (hR : CellsIn B w RA (termsC rs)) (hB : B ≤ w.heap.size) (hn : rs.length = n) (hm : n ≤ 1000) :
    Calls Try.prog 38 #[.slice RA n rc, .int .i64 cnt] w fun e w' => e = .returned (.int .i64 (rngE rs cnt)) ∧ Below w.heap.size w w' := by
  have HT := Lib.hid (show rngE rs cnt = if (n : Int) = cnt then (scan (fun k => rngE1 (rs.getD k default)) n 0).2 else 10 from by rw [← hn]; rfl)
  have HR := Lib.hid (fun W (hW : Below w.heap.size w W) => hR.below (hW.mono hB))
  have HN := Lib.hid hn
  clear hR hn
  generalize rngE rs cnt = R at *
  by_cases hc : (n : Int) = cnt
  · have z1 : ((n : Int) != cnt) = false := by simpa using hc
    have HE := Lib.hid (show R = (scan (fun k => rngE1 (rs.getD k default)) n 0).2 by rw [HT.out, if_pos hc])
    clear HT hc
    go_enter Try.func38, Try.ntmps38
    go_wp2
    go_loopw [14] (fun iv wr => ∃ k : Nat, k ≤ n ∧ iv = .int .i64 (k : Int) ∧ scan (fun k => rngE1 (rs.getD k default)) n 0 = scan (fun k => rngE1 (rs.getD k default)) n k ∧ Below w.heap.size w wr) (fun iv _ => n - (intOf iv).toNat)
    case atStart => exact ⟨0, Nat.zero_le _, rfl, rfl, pr⟩
    case round =>
      obtain ⟨k, hk, rfl, hf, hq⟩ := hrel
      have HQ := Lib.hid hq
      have hqs := hq.size
      clear hq
      by_cases hlt : k < n
      · have hk' : k < rs.length := by rw [HN.out]; exact hlt
        obtain ⟨b, off, rfl, hb, hct⟩ := terms_at (HR.out wr HQ.out) hk'
        obtain ⟨u0, u1⟩ := hct k hk'
        have HS := Lib.hid (hf.trans (scan_step hlt))
        have HPt : rngE1 (rs.getD k default) = firstV [unlessV (withinB (rs.getD k default).f 1 20 && withinB (rs.getD k default).q 1 20) 2, unlessV (decide ((rs.getD k default).f ≤ (rs.getD k default).q)) 9] := rfl
        have hbw : b < wr.heap.size := Nat.lt_of_lt_of_le hb (Nat.le_trans hB hqs)
        clear hct hf
        generalize rngE1 (rs.getD k default) = e at *
        generalize rs.getD k default = x at *
        obtain ⟨xl, xh⟩ := x
        dsimp only at *
        replace HPt := Lib.hid HPt.symm
        have HI1 := Lib.hid (fun W => isReluctance_any xl _ rfl W)
        have HI2 := Lib.hid (fun W => isReluctance_any xh _ rfl W)
        generalize withinB xl 1 20 = a1 at *
        generalize withinB xh 1 20 = a2 at *
        cases a1
        all_goals
          have HW := Lib.hid HPt.out
          simp only [Bool.true_and, Bool.false_and] at HW
          have HB1 := Lib.hid (show Below w.heap.size w (wr.alloc (.cells #[.int .i64 xl, .int .i64 xh] 57)) from pa HQ.out)
          have HP1 := Lib.hid (show Blk (wr.alloc (.cells #[.int .i64 xl, .int .i64 xh] 57)) wr.heap.size 57 #[.int .i64 xl, .int .i64 xh] from Blk.newAt rfl)
          go_wp2
          generalize wr.alloc (.cells #[.int .i64 xl, .int .i64 xh] 57) = wp at *
          have y0 := HP1.out.cellAt 0 rfl
          have y1 := HP1.out.cellAt 1 rfl
          have yl := HP1.out.lt
          refine region_below 15 follows_mixed (by kernel_rfl) ?_
          intro C hC
          simp only [List.take_succ_cons, List.take_zero, List.drop_succ_cons, List.drop_zero]
          repeat (first
            | ((with_reducible refine quiet_plain rfl (fun K hK => ?_)); (focus (apply quiet_val; (focus (intro w' hw; obtain ⟨hcq, hfq⟩ := bcell ((hC.out _).1 hw); go_simp; (first | done | rfl | (with_reducible exact call_same hw (unlessFd_any _ _ _)) | (with_reducible exact call_same hw (HI1.out _)) | (with_reducible exact call_same hw (HI2.out _))))); (simp only [Act.put, List.setIfInBounds_toArray, List.set_cons_succ, List.set_cons_zero]); (with_reducible refine hK _ ?_); clear hK K)))
            | ((with_reducible refine quiet_skip ?_ ?_); (focus (first | (simp [Region.wanted, yielded]; done) | (simp [Region.wanted, yielded, undef]; done))); simp only [Act.put, List.setIfInBounds_toArray, List.set_cons_succ, List.set_cons_zero])
            | ((with_reducible refine quiet_go ?_ (fun K hK => ?_)); (focus (first | (simp [Region.wanted, yielded]; done) | (simp [Region.wanted, yielded, undef]; done))); (focus (apply quiet_val; (focus (intro w' hw; obtain ⟨hcq, hfq⟩ := bcell ((hC.out _).1 hw); go_simp; (first | done | rfl | (with_reducible exact call_same hw (unlessFd_any _ _ _)) | (with_reducible exact call_same hw (HI1.out _)) | (with_reducible exact call_same hw (HI2.out _))))); (simp only [Act.put, List.setIfInBounds_toArray, List.set_cons_succ, List.set_cons_zero]); (with_reducible refine hK _ ?_); clear hK K))))
          refine wpQuiet_nil ?_
          intro w1 hb1
          replace hb1 := (hC.out _).1 hb1
          clear hC C
          obtain ⟨hc1, hf1⟩ := bcell hb1
          have HB2 := Lib.hid (pt HB1.out hb1)
          clear hc1 hf1 hb1 y0 y1 yl u0 u1
          by_cases he : e = 0
          · subst he
            have HS2 := Lib.hid (show scan (fun k => rngE1 (rs.getD k default)) n 0 = scan (fun k => rngE1 (rs.getD k default)) n (k + 1) by rw [HS.out, if_pos rfl])
            go_wp2_with (go_at_call 25; refine (first2Fd _ _ _ _ _ (by first | (go_simp; done) | (go_simp; rfl)) (by first | (go_simp; done) | (go_simp; rfl)) _ HW.out).mono ?_; rintro e w' ⟨rfl, rfl⟩)
            go_roundw
            case rel => exact ⟨k + 1, by omega, by go_num, HS2.out, pa HB2.out⟩
            case measure => simp [intOf]; omega
          · have he1 : (e == 0) = false := by simpa using he
            have he2 : (e != 0) = true := by simpa using he
            have HRs := Lib.hid (show R = e by rw [HE.out, HS.out, if_neg he])
            go_wp2_with (go_at_call 25; refine (first2Fd _ _ _ _ _ (by first | (go_simp; done) | (go_simp; rfl)) (by first | (go_simp; done) | (go_simp; rfl)) _ HW.out).mono ?_; rintro e w' ⟨rfl, rfl⟩)
            go_ret
            exact ⟨ret_int HRs.out.symm, pa HB2.out⟩
      · have HRs := Lib.hid (show R = 0 by rw [HE.out, hf, scan_end (by omega)])
        clear hf
        go_wp2
        go_ret
        exact ⟨ret_int HRs.out.symm, HQ.out⟩
  · have z1 : ((n : Int) != cnt) = true := by simpa using hc
    have HE := Lib.hid (show R = 10 by rw [HT.out, if_neg hc])
    clear HT hc
    go_enter Try.func38, Try.ntmps38
    go_wp2
    go_ret
    exact ⟨ret_int HE.out.symm, pr⟩
theorem span_size : (Try.prog.info? 53).map (·.size) = some 4 := by kernel_rfl
/-- The span of two fractions, or the first error. -/
def spanV (a b : Int × Int × Int) : (Int × Int × Int × Int) × Int := if firstV [a.2.2, b.2.2] = 0 then ((a.1, a.2.1, b.1, b.2.1), 0) else ((0, 0, 0, 0), firstV [a.2.2, b.2.2])
set_option maxHeartbeats 1000000 in
theorem span_any (a1 a2 e b1 b2 f : Int) (w : World) :
    Calls Try.prog 42 #[.agg #[.int .i64 a1, .int .i64 a2], .int .i64 e, .agg #[.int .i64 b1, .int .i64 b2], .int .i64 f] w fun r w' => r = .returned (.tuple #[.agg #[.int .i64 (spanV (a1, a2, e) (b1, b2, f)).1.1, .int .i64 (spanV (a1, a2, e) (b1, b2, f)).1.2.1, .int .i64 (spanV (a1, a2, e) (b1, b2, f)).1.2.2.1, .int .i64 (spanV (a1, a2, e) (b1, b2, f)).1.2.2.2], .int .i64 (spanV (a1, a2, e) (b1, b2, f)).2]) ∧ Below w.heap.size w w' := by
  have HW := Lib.hid (show firstV [e, f] = firstV [e, f] from rfl)
  have HV := Lib.hid (show spanV (a1, a2, e) (b1, b2, f) = if firstV [e, f] = 0 then ((a1, a2, b1, b2), 0) else ((0, 0, 0, 0), firstV [e, f]) from rfl)
  generalize spanV (a1, a2, e) (b1, b2, f) = V at *
  generalize hE : firstV [e, f] = E at HV
  have HW2 := Lib.hid hE
  clear HW hE
  have Z0 := Lib.hid (show Blk (((w.alloc (.cells #[.int .i64 a1, .int .i64 a2] 32)).alloc (.cells #[.int .i64 b1, .int .i64 b2] 32)).alloc (.cells #[.int .i64 0, .int .i64 0, .int .i64 0, .int .i64 0] 53)) (w.heap.size + 1 + 1) 53 #[.int .i64 0, .int .i64 0, .int .i64 0, .int .i64 0] from Blk.newAt (by simp))
  have HB0 := Lib.hid (show Below w.heap.size w (((w.alloc (.cells #[.int .i64 a1, .int .i64 a2] 32)).alloc (.cells #[.int .i64 b1, .int .i64 b2] 32)).alloc (.cells #[.int .i64 0, .int .i64 0, .int .i64 0, .int .i64 0] 53)) from pa (pa (pa pr)))
  by_cases h0 : E = 0
  · subst h0
    have HVe := Lib.hid (show V = ((a1, a2, b1, b2), 0) by rw [HV.out, if_pos rfl])
    clear HV
    go_enter Try.func42, Try.ntmps42
    go_wp2_with (first
      | (go_at_call 25; (go_must (refine (first2Fd _ _ _ _ _ (by first | (go_simp; done) | (go_simp; rfl)) (by first | (go_simp; done) | (go_simp; rfl)) _ HW2.out).mono ?_)); rintro e w' ⟨rfl, rfl⟩)
      | ((with_reducible refine store_blk (T := 53) (x := .tmp 8) (y := .tmp 20) (vs := #[.int .i64 a1, .int .i64 a2, .int .i64 b1, .int .i64 b2]) Z0.out.alloc ?_ ?_ ?_ ?_ ?_ ?_); (focus rfl); (focus exact span_size); (focus (simp [Value.oneCell']; done)); (focus (first | rfl | (go_simp; done))); (focus (first | rfl | (go_simp; done))); intro WF RF PF))
    have r0 := RF.cellAt 0 rfl
    have r1 := RF.cellAt 1 rfl
    have r2 := RF.cellAt 2 rfl
    have r3 := RF.cellAt 3 rfl
    refine bodyPost_ret (v := .tuple #[.agg #[.int .i64 a1, .int .i64 a2, .int .i64 b1, .int .i64 b2], .int .i64 0]) (by simp [results, Try.results42, go_sem, r0, r1, r2, r3]) rfl ?_
    exact ⟨by rw [HVe.out], pp (pa HB0.out) PF (by omega)⟩
  · have z1 : (E == 0) = false := by simpa using h0
    have z2 : (E != 0) = true := by simpa using h0
    have HVe := Lib.hid (show V = ((0, 0, 0, 0), E) by rw [HV.out, if_neg h0])
    clear HV
    go_enter Try.func42, Try.ntmps42
    go_wp2_with (first
      | (go_at_call 25; (go_must (refine (first2Fd _ _ _ _ _ (by first | (go_simp; done) | (go_simp; rfl)) (by first | (go_simp; done) | (go_simp; rfl)) _ HW2.out).mono ?_)); rintro e w' ⟨rfl, rfl⟩)
      | ((with_reducible refine store_blk (T := 53) (x := .tmp 8) (y := .tmp 16) (vs := #[.int .i64 0, .int .i64 0, .int .i64 0, .int .i64 0]) Z0.out.alloc ?_ ?_ ?_ ?_ ?_ ?_); (focus rfl); (focus exact span_size); (focus (simp [Value.oneCell']; done)); (focus (first | rfl | (go_simp; done))); (focus (first | rfl | (go_simp; done))); intro WF RF PF))
    have r0 := RF.cellAt 0 rfl
    have r1 := RF.cellAt 1 rfl
    have r2 := RF.cellAt 2 rfl
    have r3 := RF.cellAt 3 rfl
    refine bodyPost_ret (v := .tuple #[.agg #[.int .i64 0, .int .i64 0, .int .i64 0, .int .i64 0], .int .i64 E]) (by simp [results, Try.results42, go_sem, r0, r1, r2, r3]) rfl ?_
    exact ⟨by rw [HVe.out], pp (pa HB0.out) PF (by omega)⟩
end Go.Proofs.Ytapegimghfflhaa
end
