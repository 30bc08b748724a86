/- Contract: MarginsOf (package design). Printed by a program (gen_d8mar.py). -/
import Derived.Test.YtnfbdkdjoekifaaGreatDoorOn3

section
namespace Go.Proofs.YtnfbdkdjoekifaaGreatDoor
open Go.RowKit Go.Shelf
attribute [local go_sem] Oper.semAt_some undef

/-- What a round keeps for the iterator of margins: what of S was there, and its own values. -/
structure KeepT (S : Nat → Prop) (W0 A A' : World) : Prop where
  size : A.heap.size ≤ A'.heap.size
  own : ∀ k, S k → k < A.heap.size → A'.heap[k]? = A.heap[k]?
  kind : KeptT 118 A A'
theorem KeepT.trans {S : Nat → Prop} {W A B C : World} (h : KeepT S W A B) (k : KeepT S W B C) : KeepT S W A C := ⟨Nat.le_trans h.size k.size, fun i hi h2 => (k.own i hi (Nat.lt_of_lt_of_le h2 h.size)).trans (h.own i hi h2), fun b cs fz ht => (k.kind b cs fz ((h.kind b cs fz ht).trans ht)).trans (h.kind b cs fz ht)⟩
theorem KeepT.put {S : Nat → Prop} {W A : World} {l : Nat} {o : Obj} (o' : Obj) (hS : ∀ k, S k → k ≠ l) (ho : A.heap[l]? = some o) (hc : o.isCells = false) : KeepT S W A (A.putObj l o') :=
  ⟨by simp, fun k hk _ => World.putObj_heap_other (hS k hk), fun b cs fz ht => World.putObj_heap_other fun e => by
    subst e
    rw [ht] at ho
    cases ho
    cases hc⟩
theorem KeepT.of_below {S : Nat → Prop} {W A A' : World} (h : Below A.heap.size A A') : KeepT S W A A' := ⟨h.size, fun k _ hk => h.block k hk, KeptT.below h⟩
theorem KeepT.blk {S : Nat → Prop} {W A A' : World} (h : KeepT S W A A') {g : Nat} {cs : Array Value} (hb : Blk A g 118 cs) : Blk A' g 118 cs := (h.kind g cs (0, 0) hb).trans hb
set_option maxRecDepth 100000 in
set_option maxHeartbeats 8000000 in
theorem margins_seqT (m B : Nat) (rs : List DReq) (RA : Option Addr) (rn rc : Nat) (sl : List (List DPart)) (SA : Option Addr) (n c : Nat) (idle price : Int) (ch : List Int) (CA : Option Addr) (cn cc : Nat) (b1 b2 : Nat) (w0 : World)
    (hrr : ReqsIn B w0 RA rs) (hr : SlotsIn B w0 SA sl) (hc : IntsIn B w0 CA ch) (hB : B ≤ w0.heap.size) (hrn : rs.length = rn) (hrm : rn ≤ 1000) (hn : sl.length = n) (hcn : n = cn) (hs : SlotsOk sl) (hch : ChoiceOk sl ch) (hrs : ∀ r ∈ rs, ReqOk r)
    (_h1 : b1 < w0.heap.size) (_h2 : b2 < w0.heap.size) (c1 : Blk w0 b1 82 #[.slice SA n c, .int .i64 idle, .int .i64 price, .slice RA rn rc]) (c2 : Blk w0 b2 32 #[.slice CA cn cc]) :
    SeqP m Tryz.prog 67 #[] #[.pointer (some ⟨b1, 0, none⟩), .pointer (some ⟨b2, 0, none⟩)] mEnc (fun _ _ => True) (KeepT (fun k => k < B))
      (fun xs => xs = margL rs (valsF sl ch n)) (fun pre => pre ≠ [] ∧ pre <+: margL rs (valsF sl ch n)) rn w0 := by
  subst hcn
  intro l J Jx W hW hJ hJx hY h0
  have hWB := Nat.le_trans hB hW.size
  have HV := Lib.hid (values_any B sl SA n c idle price ch CA cc W (hr.below (hW.mono hB)) (hc.below (hW.mono hB)) hWB hn hs hch)
  have HVo := Lib.hid (show ValsOk (valsF sl ch n) from fun q => by
    have := vals_bd hs hch q (k := n) (by rw [hn]; exact Nat.le_refl _)
    have h5 : n ≤ 5 := by rw [← hn]; exact hs.1.2
    have h6 : ((n : Nat) : Int) * 1000000 ≤ 5000000 := by omega
    exact ⟨⟨this.1, by omega⟩, by omega, by omega⟩)
  have HR := Lib.hid (hrr.below (hW.mono hB))
  have HN := Lib.hid hrn
  have HRo := Lib.hid hrs
  have HY := Lib.hid hY
  have HJ := Lib.hid hJ
  have H0 := Lib.hid h0
  have C1 := Lib.hid (c1.past hW)
  have C2 := Lib.hid (c2.past hW)
  unfold valsV valsC at HV
  generalize valsF sl ch n = v at *
  have d0 := C1.out.cellAt 0 rfl
  have d1 := C1.out.cellAt 1 rfl
  have d2 := C1.out.cellAt 2 rfl
  have d3 := C1.out.cellAt 3 rfl
  have dl := C1.out.lt
  have e0 := C2.out.cellAt 0 rfl
  clear hY hJ hJx h0 c1 c2 hrr hr hc hrn hrs hs hch hn
  refine callsIn_of_wp Tryz.func67 rfl trivial ?_ rfl
  simp only [undef, Tryz.ntmps67, List.size_toArray, List.length_cons, List.length_nil, Nat.reduceAdd, Nat.reduceSub, Array.replicate_succ, Array.replicate_zero, List.push_toArray, List.append_toArray, List.nil_append, List.cons_append]
  gi_wp2_with (refine ⟨trivial, (fun h => nomatch h), ?_⟩; gi_at_call 68; refine (callsIn_wide.2 HV.out).mono ?_; rintro e w1 ⟨rfl, hb1⟩; have HB1 := Lib.hid hb1; have D1 := Lib.hid (C1.out.past hb1); clear hb1 d0 d1 d2 d3 dl e0; have d3 := D1.out.cellAt 3 rfl; have dl := D1.out.lt)
  have HS0 := Lib.hid (show ∃ g, g = w1.heap.size ∧ J ((margL rs v).take 0) (w1.alloc (.cells #[.int .i64 (v 0).1, .int .i64 (v 0).2, .int .i64 (v 1).1, .int .i64 (v 1).2, .int .i64 (v 2).1, .int .i64 (v 2).2, .int .i64 (v 3).1, .int .i64 (v 3).2, .int .i64 (v 4).1, .int .i64 (v 4).2, .int .i64 (v 5).1, .int .i64 (v 5).2] 118)) ∧ Blk (w1.alloc (.cells #[.int .i64 (v 0).1, .int .i64 (v 0).2, .int .i64 (v 1).1, .int .i64 (v 1).2, .int .i64 (v 2).1, .int .i64 (v 2).2, .int .i64 (v 3).1, .int .i64 (v 3).2, .int .i64 (v 4).1, .int .i64 (v 4).2, .int .i64 (v 5).1, .int .i64 (v 5).2] 118)) g 118 #[.int .i64 (v 0).1, .int .i64 (v 0).2, .int .i64 (v 1).1, .int .i64 (v 1).2, .int .i64 (v 2).1, .int .i64 (v 2).2, .int .i64 (v 3).1, .int .i64 (v 3).2, .int .i64 (v 4).1, .int .i64 (v 4).2, .int .i64 (v 5).1, .int .i64 (v 5).2] ∧ ReqsIn B (w1.alloc (.cells #[.int .i64 (v 0).1, .int .i64 (v 0).2, .int .i64 (v 1).1, .int .i64 (v 1).2, .int .i64 (v 2).1, .int .i64 (v 2).2, .int .i64 (v 3).1, .int .i64 (v 3).2, .int .i64 (v 4).1, .int .i64 (v 4).2, .int .i64 (v 5).1, .int .i64 (v 5).2] 118)) RA rs ∧ B ≤ (w1.alloc (.cells #[.int .i64 (v 0).1, .int .i64 (v 0).2, .int .i64 (v 1).1, .int .i64 (v 1).2, .int .i64 (v 2).1, .int .i64 (v 2).2, .int .i64 (v 3).1, .int .i64 (v 3).2, .int .i64 (v 4).1, .int .i64 (v 4).2, .int .i64 (v 5).1, .int .i64 (v 5).2] 118)).heap.size ∧ W.heap.size ≤ g from
    ⟨_, rfl, abides_past HJ.out H0.out (pa HB1.out), Blk.newAt rfl, HR.out.below ((pa HB1.out).mono hWB), Nat.le_trans hWB (pa HB1.out).size, HB1.out.size⟩)
  generalize w1.alloc (.cells #[.int .i64 (v 0).1, .int .i64 (v 0).2, .int .i64 (v 1).1, .int .i64 (v 1).2, .int .i64 (v 2).1, .int .i64 (v 2).2, .int .i64 (v 3).1, .int .i64 (v 3).2, .int .i64 (v 4).1, .int .i64 (v 4).2, .int .i64 (v 5).1, .int .i64 (v 5).2] 118) = v0 at *
  obtain ⟨g, hg, hs0⟩ := HS0.out
  rw [← hg]
  have HS1 := Lib.hid hs0
  have hgW := hs0.2.2.2.2
  clear HS0 hs0 hg C1 C2 D1 d3 dl HB1 HV
  gi_loopw [14] (fun iv wr => ∃ k : Nat, iv = .int .i64 (k : Int) ∧ k ≤ rn ∧ J ((margL rs v).take k) wr ∧ Blk wr g 118 #[.int .i64 (v 0).1, .int .i64 (v 0).2, .int .i64 (v 1).1, .int .i64 (v 1).2, .int .i64 (v 2).1, .int .i64 (v 2).2, .int .i64 (v 3).1, .int .i64 (v 3).2, .int .i64 (v 4).1, .int .i64 (v 4).2, .int .i64 (v 5).1, .int .i64 (v 5).2] ∧ ReqsIn B wr RA rs ∧ B ≤ wr.heap.size) (fun iv _ => rn - (intOf iv).toNat)
  case atStart => exact ⟨0, rfl, Nat.zero_le _, HS1.out.1, HS1.out.2.1, HS1.out.2.2.1, HS1.out.2.2.2.1⟩
  case round =>
    clear HS1
    obtain ⟨k, rfl, hk, hj, q4, hrq, hBw⟩ := hrel
    have HJ1 := Lib.hid hj
    have Q4 := Lib.hid q4
    have HRq := Lib.hid hrq
    by_cases hlt : k < rn
    · have hk' : k < rs.length := by rw [HN.out]; exact hlt
      have hro := HRo.out _ (getD_mem' hk')
      obtain ⟨b, off, rfl, hb, hct⟩ := HRq.out.at_ hk'
      obtain ⟨A2, c2, u0, u1, u2, u3, hts, hcap⟩ := hct k hk'
      have htake := margL_take (v := v) hk'
      have hMg := fun W' (hW' : Below wr.heap.size wr W') => margin_any B (rs.getD k default) A2 _ c2 v W' (hts.below (hW'.mono hBw)) (Nat.le_trans hBw hW'.size) rfl hro.1 HVo.out hro.2
      unfold rngV valsV valsC at hMg
      have HTk := Lib.hid htake
      have HMg := Lib.hid hMg
      have hlen : ((margL rs v).take k).length < rn := by rw [List.length_take, margL_len, HN.out]; omega
      have HLen := Lib.hid hlen
      clear hct hts hcap hro hMg htake hlen hj q4 hrq
      generalize rs.getD k default = r at *
      obtain ⟨rts, ge, lim, unit⟩ := r
      dsimp only at *
      generalize rts.length = ln at *
      generalize marginV ⟨rts, ge, lim, unit⟩ v = M at *
      have hbw : b < wr.heap.size := by omega
      have gl := Q4.out.lt
      have x0 := Q4.out.cellAt 0 rfl
      have x1 := Q4.out.cellAt 1 rfl
      have x2 := Q4.out.cellAt 2 rfl
      have x3 := Q4.out.cellAt 3 rfl
      have x4 := Q4.out.cellAt 4 rfl
      have x5 := Q4.out.cellAt 5 rfl
      have x6 := Q4.out.cellAt 6 rfl
      have x7 := Q4.out.cellAt 7 rfl
      have x8 := Q4.out.cellAt 8 rfl
      have x9 := Q4.out.cellAt 9 rfl
      have x10 := Q4.out.cellAt 10 rfl
      have x11 := Q4.out.cellAt 11 rfl
      gi_wp2_with (refine ⟨trivial, (fun h => nomatch h), ?_⟩; gi_at_call 69; refine (callsIn_wide.2 (HMg.out _ (pa pr))).mono ?_; rintro e w2 ⟨rfl, hb2⟩; have HB2 := Lib.hid (pt (pa pr) hb2); clear hb2; obtain ⟨fn, tmps, assign, body, hy, hR⟩ := HY.out ((margL rs v).take k) (k, M) w2 (abides_past HJ.out HJ1.out HB2.out) trivial HLen.out; unfold mEnc at hy)
      refine ⟨(fun h => nomatch h), (roundIn_any hR).mono ?_⟩
      rintro e W3 (⟨rfl, hJ3, hk3⟩ | ⟨rfl, hJx3⟩)
      · clear x0 x1 x2 x3 x4 x5 x6 x7 x8 x9 x10 x11 u0 u1 u2 u3 hR hy
        gi_wp2
        go_roundw
        case rel => exact ⟨k + 1, by go_num, by omega, by rw [HTk.out]; exact hJ3, hk3.blk (Q4.out.past HB2.out), (HRq.out.below (HB2.out.mono hBw)).keep (fun b o hb => World.cell?_of_block (hk3.own b hb (Nat.lt_of_lt_of_le hb (Nat.le_trans hBw HB2.out.size)))), Nat.le_trans hBw (Nat.le_trans HB2.out.size hk3.size)⟩
        case measure => simp [intOf]; omega
      · clear x0 x1 x2 x3 x4 x5 x6 x7 x8 x9 x10 x11 u0 u1 u2 u3 hR hy
        gi_wp2
        refine bodyPost_ret (results_none rfl _ _ _) rfl ?_
        exact ⟨⟨_, rfl⟩, .inr ⟨_, ⟨by simp, by rw [← HTk.out]; exact List.take_prefix _ _⟩, hJx3⟩⟩
    · have hkn : k = rn := by omega
      subst hkn
      clear hj q4 hrq
      gi_wp2
      go_end0
      exact ⟨⟨_, rfl⟩, .inl ⟨margL rs v, rfl, by have h := HJ1.out; rw [List.take_of_length_le (by rw [margL_len, HN.out]; exact Nat.le_refl _)] at h; exact h⟩⟩


/-- The cells of a range, of ranges. -/
def rngU (m : Int × Int) : List Value := [.int .i64 m.1, .int .i64 m.2]
def rangesC (L : List (Int × Int)) : List Value := L.flatMap rngU
theorem rng_len (m : Int × Int) : (rngU m).length = 2 := rfl
theorem range_infoC : (Tryz.prog.info? 57).map (fun i => (i.zero, i.size, i.bytes)) = some (some (.agg #[.int .i64 0, .int .i64 0]), 2, 16) := by kernel_rfl
theorem cell_two_new (w : World) (t : TypeId) (x y : Value) : ∀ (j : Nat) (u : Value), [x, y][j]? = some u → (w.alloc (.cells #[x, y] t)).cell? ((⟨w.heap.size, 0, none⟩ : Addr).add j) = some u := fun j u h => by
  rw [Go.WideShapes.add_plain, Nat.zero_add]
  rw [(Blk.new w t #[x, y]).cell]
  match j, h with
  | 0, h => exact h
  | 1, h => exact h
/-- Ranges of the callee's own, and an error. -/
def MargRet (w : World) (L : List (Int × Int)) (E : Int) (e : Ending) (w' : World) : Prop := ∃ A c, e = .returned (.tuple #[.slice A L.length c, .int .i64 E]) ∧ CellsIn w'.heap.size w' A (rangesC L) ∧ Below w.heap.size w w'
def rowM (pre : List RowM) : List Value := rangesC (pre.map (·.2))
theorem rowM_snoc (pre : List RowM) (i : Nat) (lo hi : Int) : rowM (pre ++ [(i, lo, hi)]) = rowM pre ++ [.int .i64 lo, .int .i64 hi] := by
  unfold rowM rangesC
  rw [List.map_append, List.flatMap_append]
  rfl

set_option maxRecDepth 100000 in
set_option maxHeartbeats 8000000 in
theorem marginsOf_in (k : Nat) (B : Nat) (rs : List DReq) (RA : Option Addr) (rn rc : Nat) (sl : List (List DPart)) (SA : Option Addr) (n c : Nat) (idle price : Int) (ch : List Int) (CA : Option Addr) (m cc : Nat) (w : World) (hrr : ReqsIn B w RA rs) (hr : SlotsIn B w SA sl) (hc : IntsIn B w CA ch) (hB : B ≤ w.heap.size) (hn : sl.length = n) (hm : ch.length = m) (hn1 : n ≤ 1000) (hs : SmallSlots sl) (hrn : rs.length = rn) (hrm : rn ≤ 1000) (hrs : ∀ r ∈ rs, r.ts.length ≤ 1000) (hU : UnitIn w) (h6 : Six sl) (h1 : 1 ≤ k) (h0 : allE rs idle price sl ch = 0) :
    CallsIn Fence.wide k Tryz.prog 18 #[.agg #[.slice RA rn rc], .agg #[.slice SA n c, .int .i64 idle, .int .i64 price], .slice CA m cc] w (MargRet w (marginsV rs sl ch) 0) := by
  have HO := Lib.hid (fun W (hW : Below w.heap.size w W) => openAll_any B rs RA rn rc sl SA n c idle price ch CA m cc W (hrr.below (hW.mono hB)) (hr.below (hW.mono hB)) (hc.below (hW.mono hB)) (Nat.le_trans hB hW.size) hn hm hn1 hs hrn hrm hrs (hU.below hW))
  have hE := h0
  unfold allE at hE
  have hst : openE rs idle price sl = 0 := by
    by_cases h : openE rs idle price sl = 0
    · exact h
    · rw [if_neg h] at hE; exact absurd hE h
  rw [if_pos hst] at hE
  have hok := openE_ok h6 hst
  have hch := choiceE_ok hE
  obtain rfl : n = m := by rw [← hm, ← hn]; exact hch.1.symm
  have HM := Lib.hid (show marginsV rs sl ch = (margL rs (valsF sl ch n)).map (·.2) by
    unfold marginsV
    rw [margL_map, hm])
  have HMl := Lib.hid (show (margL rs (valsF sl ch n)).length = rn by rw [margL_len, hrn])
  have HSeq := Lib.hid (fun b1 b2 w0 (hW : Below w.heap.size w w0) h1 h2 c1 c2 => margins_seqT (k - 1) B rs RA rn rc sl SA n c idle price ch CA n cc b1 b2 w0 (hrr.below (hW.mono hB)) (hr.below (hW.mono hB)) (hc.below (hW.mono hB)) (Nat.le_trans hB hW.size) hrn hrm hn rfl hok.s hch hok.r h1 h2 c1 c2)
  have HX := Lib.hid h0
  obtain ⟨i0, hi0, hz0, hz1, hz2⟩ := info_partsC range_infoC
  clear hrr hr hc hrn hrs hU hn hm hs h6 h0 hE hst hok hch
  generalize valsF sl ch n = v at *
  generalize marginsV rs sl ch = R at *
  have z1 : ((0 : Int) != 0) = false := rfl
  refine callsIn_of_wp_marks Tryz.func18 rfl trivial ?_ rfl
  simp only [undef, Tryz.ntmps18, List.size_toArray, List.length_cons, List.length_nil, Nat.reduceAdd, Nat.reduceSub, Array.replicate_succ, Array.replicate_zero, List.push_toArray, List.append_toArray, List.nil_append, List.cons_append]
  gi_wp2_with (first
    | (refine ⟨trivial, ?_⟩; gi_at_call 42; refine (callsIn_wide.2 (HO.out _ (pa (pa pr)))).mono ?_; rintro e w1 ⟨rfl, hb1⟩; rw [HX.out]; have HB1 := Lib.hid (pt (pa (pa pr)) hb1); have T8 := Lib.hid (show Blk ((w1.alloc (.cells #[.slice SA n c, .int .i64 idle, .int .i64 price, .slice RA rn rc] 82)).alloc (.cells #[.slice none 0 0] 50)) w1.heap.size 82 #[.slice SA n c, .int .i64 idle, .int .i64 price, .slice RA rn rc] from (Blk.newAt rfl).alloc); have t0 := T8.out.cellAt 0 rfl; have t1 := T8.out.cellAt 1 rfl; have t2 := T8.out.cellAt 2 rfl; have t3 := T8.out.cellAt 3 rfl; have tl := T8.out.lt; clear hb1)
    | (refine ⟨trivial, ?_⟩; gi_at_call 43; refine (callsIn_wide.2 (margins_any #[] _ _ _ _ _ _ _ _ _ _ _ _)).mono ?_; rintro e w' ⟨rfl, rfl⟩))
  have hb : Below w.heap.size w ((((w1.alloc (.cells #[.slice SA n c, .int .i64 idle, .int .i64 price, .slice RA rn rc] 82)).alloc (.cells #[.slice none 0 0] 50)).alloc (.cells #[.slice SA n c, .int .i64 idle, .int .i64 price, .slice RA rn rc] 82)).alloc (.cells #[.slice CA n cc] 32)) := pa (pa (pa (pa HB1.out)))
  have r4 : Boxed ((((w1.alloc (.cells #[.slice SA n c, .int .i64 idle, .int .i64 price, .slice RA rn rc] 82)).alloc (.cells #[.slice none 0 0] 50)).alloc (.cells #[.slice SA n c, .int .i64 idle, .int .i64 price, .slice RA rn rc] 82)).alloc (.cells #[.slice CA n cc] 32)) (w1.heap.size + 1) 50 (.slice none 0 0) := (show Blk ((((w1.alloc (.cells #[.slice SA n c, .int .i64 idle, .int .i64 price, .slice RA rn rc] 82)).alloc (.cells #[.slice none 0 0] 50)).alloc (.cells #[.slice SA n c, .int .i64 idle, .int .i64 price, .slice RA rn rc] 82)).alloc (.cells #[.slice CA n cc] 32)) (w1.heap.size + 1) 50 #[.slice none 0 0] from ((Blk.newAt (by simp)).alloc).alloc)
  have c1 : Blk ((((w1.alloc (.cells #[.slice SA n c, .int .i64 idle, .int .i64 price, .slice RA rn rc] 82)).alloc (.cells #[.slice none 0 0] 50)).alloc (.cells #[.slice SA n c, .int .i64 idle, .int .i64 price, .slice RA rn rc] 82)).alloc (.cells #[.slice CA n cc] 32)) (w1.heap.size + 1 + 1) 82 #[.slice SA n c, .int .i64 idle, .int .i64 price, .slice RA rn rc] := (Blk.newAt (by simp)).alloc
  have c2 : Blk ((((w1.alloc (.cells #[.slice SA n c, .int .i64 idle, .int .i64 price, .slice RA rn rc] 82)).alloc (.cells #[.slice none 0 0] 50)).alloc (.cells #[.slice SA n c, .int .i64 idle, .int .i64 price, .slice RA rn rc] 82)).alloc (.cells #[.slice CA n cc] 32)) (w1.heap.size + 1 + 1 + 1) 32 #[.slice CA n cc] := Blk.newAt (by simp)
  have hsz := HB1.out.size
  generalize ((((w1.alloc (.cells #[.slice SA n c, .int .i64 idle, .int .i64 price, .slice RA rn rc] 82)).alloc (.cells #[.slice none 0 0] 50)).alloc (.cells #[.slice SA n c, .int .i64 idle, .int .i64 price, .slice RA rn rc] 82)).alloc (.cells #[.slice CA n cc] 32)) = W0 at *
  generalize w1.heap.size + 1 + 1 + 1 = wb at *
  generalize w1.heap.size + 1 + 1 = wa at *
  have hb10 : w.heap.size ≤ w1.heap.size + 1 := by omega
  generalize w1.heap.size + 1 = b10 at *
  generalize w1.heap.size = b8 at *
  clear T8 t0 t1 t2 t3 tl HB1 HO
  have hBW := hb.size
  refine rangeFunc_lawA h1 (gf := 67) (fb := #[]) (lb := #[.pointer (some ⟨wa, 0, none⟩), .pointer (some ⟨wb, 0, none⟩)]) rfl (enters_of Tryz.func67 (by kernel_rfl) rfl)
    (HSeq.out wa wb W0 hb c1.lt c2.lt c1 c2) (Below.refl _ _)
    (fun h k => h.trans k) (fun W A l o o' hl hl2 ho hc => KeepT.put o' (fun k hk => by have : k < B := hk; omega) ho hc)
    (fun x A l o o' ho hc hp => hp) (fun x => rfl)
    (fun pre W => (∃ v, Boxed W b10 50 v ∧ W.ownsRow w.heap.size 57 2 v pre.length (rowM pre) ∧ True) ∧ Below w.heap.size w W)
    (fun _ _ _ => False)
    (OwnFrom.and (Own.from (holdsRow_own w.heap.size b10 50 57 2 (fun pre => pre.length) (fun pre => rowM pre) (fun _ _ => True)) _) (ownFrom_below (Nat.le_refl _) hb.size))
    (fun _ _ _ _ _ hs _ _ => hs)
    ⟨⟨_, r4, World.ownsRow_nil _ _ _ _, trivial⟩, hb⟩
    (fun x W1 => { tmps := #[.agg #[.slice RA rn rc], .agg #[.slice SA n c, .int .i64 idle, .int .i64 price], .slice CA n cc, .pointer (some ⟨w.heap.size, 0, none⟩), .pointer (some ⟨w.heap.size + 1, 0, none⟩), undef, .slice none 0 0, .int .i64 0, .pointer (some ⟨b8, 0, none⟩), .int .i64 0, .pointer (some ⟨b10, 0, none⟩), undef, .pointer (some ⟨W1.heap.size, 0, none⟩), .tuple #[.agg #[.slice SA n c, .int .i64 idle, .int .i64 price, .slice RA rn rc], .int .i64 0], .agg #[.slice RA rn rc], .agg #[.slice SA n c, .int .i64 idle, .int .i64 price], .slice CA n cc, .tuple #[.agg #[.slice SA n c, .int .i64 idle, .int .i64 price, .slice RA rn rc], .int .i64 0], .agg #[.slice SA n c, .int .i64 idle, .int .i64 price, .slice RA rn rc], .int .i64 0, .int .i64 0, .bool false, undef, .agg #[.slice SA n c, .int .i64 idle, .int .i64 price, .slice RA rn rc], .slice CA n cc, .func (.func 67) #[] #[.pointer (some ⟨wa, 0, none⟩), .pointer (some ⟨wb, 0, none⟩)], .int .i64 (x.1 : Int), .agg #[.int .i64 x.2.1, .int .i64 x.2.2], undef, undef, undef, undef, undef], defers := [] }) (fun x => .cells #[.int .i64 x.2.1, .int .i64 x.2.2] 57)
    (fun W A o => KeepT.of_below (pa pr)) (fun _ _ _ h => h) ?assign ?body ?done ?stop
  case assign =>
    intro l x W K hK
    unfold mEnc
    gi_wp2
    exact hK
  case body =>
    rintro l pre ⟨i, lo, hi⟩ Wb W1 W hWb hW1 hW hbox ⟨⟨v, hv, hrow, _⟩, hq⟩ _ hlen
    dsimp only at hbox ⊢
    have X := Lib.hid (show Blk W W1.heap.size 57 #[.int .i64 lo, .int .i64 hi] from hbox)
    have m0 := X.out.cellAt 0 rfl
    have m1 := X.out.cellAt 1 rfl
    have ml := X.out.lt
    have hc := hv.cell
    have hrow' := Lib.hid hrow
    clear hbox hW hW1
    gi_wp2_with (gi_at_builtin; refine wpListIn_append_own _ rfl _ _ 50 rfl w.heap.size 57 i0 _ 2 16 Tryz.underlying50 hi0 hz0 hz1 hz2 rfl (by decide) _ _ _ rfl (hrow'.out.alloc _) ⟨W.heap.size, 0, none⟩ 1 1 [.int .i64 lo, .int .i64 hi] rfl rfl (cell_two_new _ _ _ _) (by simp [Value.oneCell']) (by simp only [maxLen]; omega) (by omega) (by have := hq.size; simp; omega) ?_; intro v' w2 hown' hgrow _; obtain ⟨A9, c9, rfl, hc9, _⟩ := own_form hown'; obtain ⟨hv1, hv2, hr2, hk2, hb2⟩ := hv.appended (by decide) hrow hq.size hb10 hown' hgrow; have hc1 := hv1.cell; have hf1 := hv1.frozen; have hl1 := hv1.lt)
    have hkind : KeptT 118 W (w2.setCell ⟨b10, 0, none⟩ (.slice A9 (pre.length + 1) c9)) := fun b cs fz ht => by
      have h2 : (W.alloc (.cells #[.int .i64 lo, .int .i64 hi] 57)).heap[b]? = some (.cells cs 118 fz) := (Below.heap_alloc _ _ _ (Array.getElem?_eq_some_iff.1 ht).1).trans ht
      have h3 := KeptT.rows (T := 118) (hrow.alloc _) (by decide) hgrow b cs fz h2
      have h4 : w2.heap[b]? = some (.cells cs 118 fz) := h3.trans h2
      have h5 := KeptT.cell (T := 118) (g := b10) (t := 50) (cs := #[v]) hv1 (by decide) (q := ⟨b10, 0, none⟩) rfl (.slice A9 (pre.length + 1) c9) b cs fz h4
      exact (h5.trans h4).trans ht.symm
    exact ⟨hk2.from _, ⟨hb2.size, fun k hk hl => hb2.block k (by have : k < B := hk; omega), hkind⟩, ⟨_, hv2, by rw [rowM_snoc, List.length_append]; exact hr2, trivial⟩, hq.trans hb2⟩
  case done =>
    rintro D ys W hD rfl ⟨⟨v, hv, hrow, _⟩, hq⟩ hK
    have hc := hv.cell
    obtain ⟨A9, c9, rfl, hc9, _⟩ := own_form hrow
    gi_wp2
    refine ⟨by simp, .inl ⟨_, _, rfl, run_takeDeferred hK, ?_⟩⟩
    refine ⟨.tuple #[.slice A9 (margL rs v).length c9, .int .i64 0], by simp [results, Tryz.results18, go_sem], A9, c9, ?_, ?_, hq.trans ⟨rfl, rfl, rfl, by simp, fun k hk => World.putObj_heap_other (by omega)⟩⟩
    · rw [HM.out, List.length_map]
    · rw [HM.out]
      exact cellsIn_of_own (ownsRow_putObj hrow _ hK rfl)
  case stop =>
    rintro D c pre W _ _ h _
    exact h.elim

set_option maxRecDepth 100000 in
set_option maxHeartbeats 4000000 in
theorem MarginsOf_any (B : Nat) (rs : List DReq) (RA : Option Addr) (rn rc : Nat) (sl : List (List DPart)) (SA : Option Addr) (n c : Nat) (idle price : Int) (ch : List Int) (CA : Option Addr) (m cc : Nat) (w : World) (hrr : ReqsIn B w RA rs) (hr : SlotsIn B w SA sl) (hc : IntsIn B w CA ch) (hB : B ≤ w.heap.size) (hn : sl.length = n) (hm : ch.length = m) (hn1 : n ≤ 1000) (hs : SmallSlots sl) (hrn : rs.length = rn) (hrm : rn ≤ 1000) (hrs : ∀ r ∈ rs, r.ts.length ≤ 1000) (hU : UnitIn w) (h6 : Six sl) :
    Calls Tryz.prog 18 #[.agg #[.slice RA rn rc], .agg #[.slice SA n c, .int .i64 idle, .int .i64 price], .slice CA m cc] w (MargRet w (if allE rs idle price sl ch = 0 then marginsV rs sl ch else []) (allE rs idle price sl ch)) := by
  by_cases h0 : allE rs idle price sl ch = 0
  · rw [if_pos h0, h0]
    exact callsIn_wide.1 (marginsOf_in 1 B rs RA rn rc sl SA n c idle price ch CA m cc w hrr hr hc hB hn hm hn1 hs hrn hrm hrs hU h6 (Nat.le_refl _) h0)
  · have HO := Lib.hid (fun W (hW : Below w.heap.size w W) => openAll_any B rs RA rn rc sl SA n c idle price ch CA m cc W (hrr.below (hW.mono hB)) (hr.below (hW.mono hB)) (hc.below (hW.mono hB)) (Nat.le_trans hB hW.size) hn hm hn1 hs hrn hrm hrs (hU.below hW))
    rw [if_neg h0]
    clear hr hc hn hm hs h6 hrr hrn hrs hU
    have z1 : (allE rs idle price sl ch != 0) = true := bne_iff_ne.2 h0
    generalize allE rs idle price sl ch = E at *
    clear h0
    go_enter Tryz.func18, Tryz.ntmps18
    go_wp2_with (go_at_call 42; refine (HO.out _ (pa (pa pr))).mono ?_; rintro e w1 ⟨rfl, hb1⟩; have HB1 := Lib.hid (show Below w.heap.size w (w1.alloc (.cells #[.slice SA n c, .int .i64 idle, .int .i64 price, .slice RA rn rc] 82)) from pa (pt (pa (pa pr)) hb1)); clear hb1)
    refine bodyPost_ret (v := .tuple #[.slice none 0 0, .int .i64 E]) (by simp [results, Tryz.results18, go_sem]) rfl ?_
    exact ⟨none, 0, rfl, .inl rfl, HB1.out⟩

end Go.Proofs.YtnfbdkdjoekifaaGreatDoor
end
