/- Contracts: the iterator of the margins of a choice; whether a choice meets a specification (package design). Printed by a program (gen_d2marg.py). -/
import Derived.Test.YtnfbdkdjoekifaaGreatDoorOb6
import Derived.Test.YtnfbdkdjoekifaaGreatDoorOb9

section
namespace Go.Proofs.YtnfbdkdjoekifaaGreatDoor
open Go.RowKit Go.Shelf
attribute [local go_sem] Oper.semAt_some undef

/-- What a round keeps for the iterator: what has been made since the loop began, and what of S was there. -/
structure KeepM (S : Nat → Prop) (W0 A A' : World) : Prop where
  above : Above W0.heap.size A A'
  own : ∀ k, S k → k < A.heap.size → A'.heap[k]? = A.heap[k]?
theorem KeepM.trans {S : Nat → Prop} {W A B C : World} (h : KeepM S W A B) (k : KeepM S W B C) : KeepM S W A C := ⟨h.above.trans k.above, fun i hi h2 => (k.own i hi (Nat.lt_of_lt_of_le h2 h.above.size)).trans (h.own i hi h2)⟩
theorem KeepM.put {S : Nat → Prop} {W A : World} {l : Nat} (o' : Obj) (hS : ∀ k, S k → k ≠ l) (hl : l < W.heap.size) : KeepM S W A (A.putObj l o') :=
  ⟨⟨by simp, fun k hk _ => World.putObj_heap_other (by omega)⟩, fun k hk _ => World.putObj_heap_other (hS k hk)⟩
theorem KeepM.of_below {S : Nat → Prop} {W A A' : World} (h : Below A.heap.size A A') : KeepM S W A A' := ⟨Above.of_below h, fun k _ hk => h.block k hk⟩
theorem KeepM.cell {S : Nat → Prop} {W A : World} {p : Addr} {u : Value} (hS : ∀ k, S k → k ≠ p.block) (hp : p.block < W.heap.size) : KeepM S W A (A.setCell p u) :=
  ⟨⟨by simp, fun k hk _ => Below.heap_setCell A p u k (by omega)⟩, fun k hk _ => Below.heap_setCell A p u k (hS k hk)⟩
theorem KeepM.blk {S : Nat → Prop} {W A A' : World} (h : KeepM S W A A') {g : Nat} {t : TypeId} {cs : Array Value} (hb : Blk A g t cs) (hg : S g ∨ W.heap.size ≤ g) : Blk A' g t cs := by
  have hlt := hb.lt
  have e : A'.heap[g]? = A.heap[g]? := by
    rcases hg with hg | hg
    · exact h.own g hg hlt
    · exact h.above.block g hg hlt
  exact e.trans hb

abbrev RowM := Nat × (Int × Int)
def mEnc (x : RowM) : Array Value := #[.int .i64 (x.1 : Int), .agg #[.int .i64 x.2.1, .int .i64 x.2.2]]
def margL (rs : List DReq) (v : Int → Int × Int) : List RowM := (List.range rs.length).map fun i => (i, marginV (rs.getD i default) v)
def ReqOk (r : DReq) : Prop := TermsOk r.ts ∧ -1000000000 ≤ r.lim ∧ r.lim ≤ 1000000000
theorem margL_len (rs : List DReq) (v : Int → Int × Int) : (margL rs v).length = rs.length := by simp [margL]
theorem margL_take {rs : List DReq} {v : Int → Int × Int} {k : Nat} (h : k < rs.length) : (margL rs v).take (k + 1) = (margL rs v).take k ++ [(k, marginV (rs.getD k default) v)] := by
  have h1 : k < (margL rs v).length := by rw [margL_len]; exact h
  rw [List.take_add_one, List.getElem?_eq_getElem h1]
  simp [margL]

theorem margins_any (_tk : Array Value) (SA RA CA : Option Addr) (n c rn rc cn cc : Nat) (idle price : Int) (w : World) :
    Calls Tryz.prog 43 #[.agg #[.slice SA n c, .int .i64 idle, .int .i64 price, .slice RA rn rc], .slice CA cn cc] w fun e w' =>
      e = .returned (.func (.func 67) #[] #[.pointer (some ⟨w.heap.size, 0, none⟩), .pointer (some ⟨w.heap.size + 1, 0, none⟩)]) ∧ w' = (w.alloc (.cells #[.slice SA n c, .int .i64 idle, .int .i64 price, .slice RA rn rc] 82)).alloc (.cells #[.slice CA cn cc] 32) := by
  go_enter Tryz.func43, Tryz.ntmps43
  go_wp2
  go_ret
  exact ⟨rfl, rfl⟩

set_option maxRecDepth 100000 in
set_option maxHeartbeats 8000000 in
theorem margins_seq (m B : Nat) (rs : List DReq) (RA : Option Addr) (rn rc : Nat) (sl : List (List DPart)) (SA : Option Addr) (n c : Nat) (idle price : Int) (ch : List Int) (CA : Option Addr) (cn cc : Nat) (b1 b2 : Nat) (w0 : World)
    (hrr : ReqsIn B w0 RA rs) (hr : SlotsIn B w0 SA sl) (hc : IntsIn B w0 CA ch) (hB : B ≤ w0.heap.size) (hrn : rs.length = rn) (hrm : rn ≤ 1000) (hn : sl.length = n) (hcn : n = cn) (hs : SlotsOk sl) (hch : ChoiceOk sl ch) (hrs : ∀ r ∈ rs, ReqOk r)
    (_h1 : b1 < w0.heap.size) (_h2 : b2 < w0.heap.size) (c1 : Blk w0 b1 82 #[.slice SA n c, .int .i64 idle, .int .i64 price, .slice RA rn rc]) (c2 : Blk w0 b2 32 #[.slice CA cn cc]) :
    SeqP m Tryz.prog 67 #[] #[.pointer (some ⟨b1, 0, none⟩), .pointer (some ⟨b2, 0, none⟩)] mEnc (fun _ _ => True) (KeepM (fun k => k < B))
      (fun xs => xs = margL rs (valsF sl ch n)) (fun pre => pre ≠ [] ∧ pre <+: margL rs (valsF sl ch n)) rn w0 := by
  subst hcn
  intro l J Jx W hW hJ hJx hY h0
  have hWB := Nat.le_trans hB hW.size
  have HV := Lib.hid (values_any B sl SA n c idle price ch CA cc W (hr.below (hW.mono hB)) (hc.below (hW.mono hB)) hWB hn hs hch)
  have HVo := Lib.hid (show ValsOk (valsF sl ch n) from fun q => by
    have := vals_bd hs hch q (k := n) (by rw [hn]; exact Nat.le_refl _)
    have h5 : n ≤ 5 := by rw [← hn]; exact hs.1.2
    have h6 : ((n : Nat) : Int) * 1000000 ≤ 5000000 := by omega
    exact ⟨⟨this.1, by omega⟩, by omega, by omega⟩)
  have HR := Lib.hid (hrr.below (hW.mono hB))
  have HN := Lib.hid hrn
  have HRo := Lib.hid hrs
  have HY := Lib.hid hY
  have HJ := Lib.hid hJ
  have H0 := Lib.hid h0
  have C1 := Lib.hid (c1.past hW)
  have C2 := Lib.hid (c2.past hW)
  unfold valsV valsC at HV
  generalize valsF sl ch n = v at *
  have d0 := C1.out.cellAt 0 rfl
  have d1 := C1.out.cellAt 1 rfl
  have d2 := C1.out.cellAt 2 rfl
  have d3 := C1.out.cellAt 3 rfl
  have dl := C1.out.lt
  have e0 := C2.out.cellAt 0 rfl
  clear hY hJ hJx h0 c1 c2 hrr hr hc hrn hrs hs hch hn
  refine callsIn_of_wp Tryz.func67 rfl trivial ?_ rfl
  simp only [undef, Tryz.ntmps67, List.size_toArray, List.length_cons, List.length_nil, Nat.reduceAdd, Nat.reduceSub, Array.replicate_succ, Array.replicate_zero, List.push_toArray, List.append_toArray, List.nil_append, List.cons_append]
  gi_wp2_with (refine ⟨trivial, (fun h => nomatch h), ?_⟩; gi_at_call 68; refine (callsIn_wide.2 HV.out).mono ?_; rintro e w1 ⟨rfl, hb1⟩; have HB1 := Lib.hid hb1; have D1 := Lib.hid (C1.out.past hb1); clear hb1 d0 d1 d2 d3 dl e0; have d3 := D1.out.cellAt 3 rfl; have dl := D1.out.lt)
  have HS0 := Lib.hid (show ∃ g, g = w1.heap.size ∧ J ((margL rs v).take 0) (w1.alloc (.cells #[.int .i64 (v 0).1, .int .i64 (v 0).2, .int .i64 (v 1).1, .int .i64 (v 1).2, .int .i64 (v 2).1, .int .i64 (v 2).2, .int .i64 (v 3).1, .int .i64 (v 3).2, .int .i64 (v 4).1, .int .i64 (v 4).2, .int .i64 (v 5).1, .int .i64 (v 5).2] 118)) ∧ Blk (w1.alloc (.cells #[.int .i64 (v 0).1, .int .i64 (v 0).2, .int .i64 (v 1).1, .int .i64 (v 1).2, .int .i64 (v 2).1, .int .i64 (v 2).2, .int .i64 (v 3).1, .int .i64 (v 3).2, .int .i64 (v 4).1, .int .i64 (v 4).2, .int .i64 (v 5).1, .int .i64 (v 5).2] 118)) g 118 #[.int .i64 (v 0).1, .int .i64 (v 0).2, .int .i64 (v 1).1, .int .i64 (v 1).2, .int .i64 (v 2).1, .int .i64 (v 2).2, .int .i64 (v 3).1, .int .i64 (v 3).2, .int .i64 (v 4).1, .int .i64 (v 4).2, .int .i64 (v 5).1, .int .i64 (v 5).2] ∧ ReqsIn B (w1.alloc (.cells #[.int .i64 (v 0).1, .int .i64 (v 0).2, .int .i64 (v 1).1, .int .i64 (v 1).2, .int .i64 (v 2).1, .int .i64 (v 2).2, .int .i64 (v 3).1, .int .i64 (v 3).2, .int .i64 (v 4).1, .int .i64 (v 4).2, .int .i64 (v 5).1, .int .i64 (v 5).2] 118)) RA rs ∧ B ≤ (w1.alloc (.cells #[.int .i64 (v 0).1, .int .i64 (v 0).2, .int .i64 (v 1).1, .int .i64 (v 1).2, .int .i64 (v 2).1, .int .i64 (v 2).2, .int .i64 (v 3).1, .int .i64 (v 3).2, .int .i64 (v 4).1, .int .i64 (v 4).2, .int .i64 (v 5).1, .int .i64 (v 5).2] 118)).heap.size ∧ W.heap.size ≤ g from
    ⟨_, rfl, abides_past HJ.out H0.out (pa HB1.out), Blk.newAt rfl, HR.out.below ((pa HB1.out).mono hWB), Nat.le_trans hWB (pa HB1.out).size, HB1.out.size⟩)
  generalize w1.alloc (.cells #[.int .i64 (v 0).1, .int .i64 (v 0).2, .int .i64 (v 1).1, .int .i64 (v 1).2, .int .i64 (v 2).1, .int .i64 (v 2).2, .int .i64 (v 3).1, .int .i64 (v 3).2, .int .i64 (v 4).1, .int .i64 (v 4).2, .int .i64 (v 5).1, .int .i64 (v 5).2] 118) = v0 at *
  obtain ⟨g, hg, hs0⟩ := HS0.out
  rw [← hg]
  have HS1 := Lib.hid hs0
  have hgW := hs0.2.2.2.2
  clear HS0 hs0 hg C1 C2 D1 d3 dl HB1 HV
  gi_loopw [14] (fun iv wr => ∃ k : Nat, iv = .int .i64 (k : Int) ∧ k ≤ rn ∧ J ((margL rs v).take k) wr ∧ Blk wr g 118 #[.int .i64 (v 0).1, .int .i64 (v 0).2, .int .i64 (v 1).1, .int .i64 (v 1).2, .int .i64 (v 2).1, .int .i64 (v 2).2, .int .i64 (v 3).1, .int .i64 (v 3).2, .int .i64 (v 4).1, .int .i64 (v 4).2, .int .i64 (v 5).1, .int .i64 (v 5).2] ∧ ReqsIn B wr RA rs ∧ B ≤ wr.heap.size) (fun iv _ => rn - (intOf iv).toNat)
  case atStart => exact ⟨0, rfl, Nat.zero_le _, HS1.out.1, HS1.out.2.1, HS1.out.2.2.1, HS1.out.2.2.2.1⟩
  case round =>
    clear HS1
    obtain ⟨k, rfl, hk, hj, q4, hrq, hBw⟩ := hrel
    have HJ1 := Lib.hid hj
    have Q4 := Lib.hid q4
    have HRq := Lib.hid hrq
    by_cases hlt : k < rn
    · have hk' : k < rs.length := by rw [HN.out]; exact hlt
      have hro := HRo.out _ (getD_mem' hk')
      obtain ⟨b, off, rfl, hb, hct⟩ := HRq.out.at_ hk'
      obtain ⟨A2, c2, u0, u1, u2, u3, hts, hcap⟩ := hct k hk'
      have htake := margL_take (v := v) hk'
      have hMg := fun W' (hW' : Below wr.heap.size wr W') => margin_any B (rs.getD k default) A2 _ c2 v W' (hts.below (hW'.mono hBw)) (Nat.le_trans hBw hW'.size) rfl hro.1 HVo.out hro.2
      unfold rngV valsV valsC at hMg
      have HTk := Lib.hid htake
      have HMg := Lib.hid hMg
      have hlen : ((margL rs v).take k).length < rn := by rw [List.length_take, margL_len, HN.out]; omega
      have HLen := Lib.hid hlen
      clear hct hts hcap hro hMg htake hlen hj q4 hrq
      generalize rs.getD k default = r at *
      obtain ⟨rts, ge, lim, unit⟩ := r
      dsimp only at *
      generalize rts.length = ln at *
      generalize marginV ⟨rts, ge, lim, unit⟩ v = M at *
      have hbw : b < wr.heap.size := by omega
      have gl := Q4.out.lt
      have x0 := Q4.out.cellAt 0 rfl
      have x1 := Q4.out.cellAt 1 rfl
      have x2 := Q4.out.cellAt 2 rfl
      have x3 := Q4.out.cellAt 3 rfl
      have x4 := Q4.out.cellAt 4 rfl
      have x5 := Q4.out.cellAt 5 rfl
      have x6 := Q4.out.cellAt 6 rfl
      have x7 := Q4.out.cellAt 7 rfl
      have x8 := Q4.out.cellAt 8 rfl
      have x9 := Q4.out.cellAt 9 rfl
      have x10 := Q4.out.cellAt 10 rfl
      have x11 := Q4.out.cellAt 11 rfl
      gi_wp2_with (refine ⟨trivial, (fun h => nomatch h), ?_⟩; gi_at_call 69; refine (callsIn_wide.2 (HMg.out _ (pa pr))).mono ?_; rintro e w2 ⟨rfl, hb2⟩; have HB2 := Lib.hid (pt (pa pr) hb2); clear hb2; obtain ⟨fn, tmps, assign, body, hy, hR⟩ := HY.out ((margL rs v).take k) (k, M) w2 (abides_past HJ.out HJ1.out HB2.out) trivial HLen.out; unfold mEnc at hy)
      refine ⟨(fun h => nomatch h), (roundIn_any hR).mono ?_⟩
      rintro e W3 (⟨rfl, hJ3, hk3⟩ | ⟨rfl, hJx3⟩)
      · clear x0 x1 x2 x3 x4 x5 x6 x7 x8 x9 x10 x11 u0 u1 u2 u3 hR hy
        gi_wp2
        go_roundw
        case rel => exact ⟨k + 1, by go_num, by omega, by rw [HTk.out]; exact hJ3, hk3.blk (Q4.out.past HB2.out) (.inr hgW), (HRq.out.below (HB2.out.mono hBw)).keep (fun b o hb => World.cell?_of_block (hk3.own b hb (Nat.lt_of_lt_of_le hb (Nat.le_trans hBw HB2.out.size)))), Nat.le_trans hBw (Nat.le_trans HB2.out.size hk3.above.size)⟩
        case measure => simp [intOf]; omega
      · clear x0 x1 x2 x3 x4 x5 x6 x7 x8 x9 x10 x11 u0 u1 u2 u3 hR hy
        gi_wp2
        refine bodyPost_ret (results_none rfl _ _ _) rfl ?_
        exact ⟨⟨_, rfl⟩, .inr ⟨_, ⟨by simp, by rw [← HTk.out]; exact List.take_prefix _ _⟩, hJx3⟩⟩
    · have hkn : k = rn := by omega
      subst hkn
      clear hj q4 hrq
      gi_wp2
      go_end0
      exact ⟨⟨_, rfl⟩, .inl ⟨margL rs v, rfl, by have h := HJ1.out; rw [List.take_of_length_le (by rw [margL_len, HN.out]; exact Nat.le_refl _)] at h; exact h⟩⟩

end Go.Proofs.YtnfbdkdjoekifaaGreatDoor
end
