/- Contract: Contradicting (package design). Printed by a program (gen_e2ctr.py).
light; the contracts of Cheapest as laws want them. Printed by a program (gen_e3lig.py). -/
import Derived.Test.YtncbigkkmgnkmaaGreatDoorOp5
import Derived.Test.YtncbigkkmgnkmaaGreatDoorOd5
import Derived.Test.YtncbigkkmgnkmaaGreatDoorOc3
import Derived.Test.YtncbigkkmgnkmaaGreatDoorOd9
import Derived.Test.YtncbigkkmgnkmaaGreatDoorOn2
import Derived.Test.YtncbigkkmgnkmaaGreatDoorOb1

section
namespace Go.Proofs.YtncbigkkmgnkmaaGreatDoor
open Go.RowKit Go.Shelf
attribute [local go_sem] Oper.semAt_some undef

def setL (T : Option (List Int)) : List Int := T.getD []
def setE : Option (List Int) → Int
  | none => 12
  | some _ => 0
/-- A set of the callee's own, and an error. -/
def CtrRet (w : World) (xs : List Int) (err : Int) (e : Ending) (w' : World) : Prop :=
  ∃ A c, e = .returned (.tuple #[.slice A xs.length c, .int .i64 err]) ∧ IntsIn w'.heap.size w' A xs ∧ xs.length ≤ c ∧ Below w.heap.size w w'

set_option maxRecDepth 100000 in
set_option maxHeartbeats 4000000 in
theorem contradicting_err (B : Nat) (rs : List DReq) (RA : Option Addr) (rn rc : Nat) (sl : List (List DPart)) (SA : Option Addr) (n c : Nat) (idle price : Int) (w : World) (hrr : ReqsIn B w RA rs) (hr : SlotsIn B w SA sl) (hB : B ≤ w.heap.size) (hrn : rs.length = rn) (hrm : rn ≤ 1000) (hrs : ∀ r ∈ rs, r.ts.length ≤ 1000) (hU : UnitIn w) (hn : sl.length = n) (hm : n ≤ 1000) (hs : SmallSlots sl) (h0 : openE rs idle price sl ≠ 0) :
    Calls Tryz.prog 14 #[.agg #[.slice RA rn rc], .agg #[.slice SA n c, .int .i64 idle, .int .i64 price]] w (CtrRet w [] (openE rs idle price sl)) := by
  have HO := Lib.hid (fun W (hW : Below w.heap.size w W) => open_any B rs RA rn rc sl SA n c idle price W (hrr.below (hW.mono hB)) (hr.below (hW.mono hB)) (Nat.le_trans hB hW.size) hrn hrm hrs (hU.below hW) hn hm hs)
  have z1 : (openE rs idle price sl != 0) = true := by simpa using h0
  clear hrr hr hrn hrs hU hn hs h0
  generalize openE rs idle price sl = E at *
  have HB0 := Lib.hid (show Below w.heap.size w ((((w.alloc (.cells #[.slice RA rn rc] 24)).alloc (.cells #[.slice SA n c, .int .i64 idle, .int .i64 price] 27)).alloc (.cells #[.slice none 0 0] 32)).alloc (.cells #[.int .i64 0] 33)) from pa (pa (pa (pa pr))))
  have R4 := Lib.hid (show Blk ((((w.alloc (.cells #[.slice RA rn rc] 24)).alloc (.cells #[.slice SA n c, .int .i64 idle, .int .i64 price] 27)).alloc (.cells #[.slice none 0 0] 32)).alloc (.cells #[.int .i64 0] 33)) (w.heap.size + 1 + 1) 32 #[.slice none 0 0] from (Blk.newAt (by simp)).alloc)
  have R5 := Lib.hid (show Blk ((((w.alloc (.cells #[.slice RA rn rc] 24)).alloc (.cells #[.slice SA n c, .int .i64 idle, .int .i64 price] 27)).alloc (.cells #[.slice none 0 0] 32)).alloc (.cells #[.int .i64 0] 33)) (w.heap.size + 1 + 1 + 1) 33 #[.int .i64 0] from Blk.newAt (by simp))
  go_enter Tryz.func14, Tryz.ntmps14
  go_wp2_with (go_at_call 47; refine (HO.out _ HB0.out).mono ?_; rintro e w1 ⟨rfl, hb1⟩; have HB1 := Lib.hid (pt HB0.out hb1); have q4 := (R4.out.past hb1).cellAt 0 rfl; have f4 := (R4.out.past hb1).frozen 0; have l4 := (R4.out.past hb1).lt; have q5 := (R5.out.past hb1).cellAt 0 rfl; have f5 := (R5.out.past hb1).frozen 0; have l5 := (R5.out.past hb1).lt; have R4b := Lib.hid (R4.out.past hb1); have R5b := Lib.hid (R5.out.past hb1); clear hb1)

  have P4 := Lib.hid (show Blk (((w1.setCell ⟨w.heap.size + 1 + 1, 0, none⟩ (.slice none 0 0)).setCell ⟨w.heap.size + 1 + 1 + 1, 0, none⟩ (.int .i64 E)).alloc (.cells #[.slice SA n c, .int .i64 idle, .int .i64 price, .slice RA rn rc] 94)) (w.heap.size + 1 + 1) 32 #[.slice none 0 0] from ((by simpa using R4b.out.set_ 0 (.slice none 0 0) : Blk _ _ _ #[Value.slice none 0 0]).far (by dsimp only; omega)).alloc)
  have P5 := Lib.hid (show Blk (((w1.setCell ⟨w.heap.size + 1 + 1, 0, none⟩ (.slice none 0 0)).setCell ⟨w.heap.size + 1 + 1 + 1, 0, none⟩ (.int .i64 E)).alloc (.cells #[.slice SA n c, .int .i64 idle, .int .i64 price, .slice RA rn rc] 94)) (w.heap.size + 1 + 1 + 1) 33 #[.int .i64 E] from (by simpa using (R5b.out.far (p := ⟨w.heap.size + 1 + 1, 0, none⟩) (u := .slice none 0 0) (by dsimp only; omega)).set_ 0 (.int .i64 E) : Blk _ _ _ #[Value.int .i64 E]).alloc)
  have e0 := P4.out.cellAt 0 rfl
  have e1 := P5.out.cellAt 0 rfl
  refine bodyPost_ret (v := .tuple #[.slice none 0 0, .int .i64 E]) (by simp [results, Tryz.results14, go_sem, e0, e1]) rfl ?_
  exact ⟨none, 0, rfl, .inl rfl, Nat.zero_le _, pa (ps (ps HB1.out (by dsimp only; omega)) (by dsimp only; omega))⟩

set_option maxRecDepth 100000 in
set_option maxHeartbeats 8000000 in
theorem contradicting_in (m : Nat) (B : Nat) (rs : List DReq) (RA : Option Addr) (rn rc : Nat) (sl : List (List DPart)) (SA : Option Addr) (n c : Nat) (idle price : Int) (w : World) (hrr : ReqsIn B w RA rs) (hr : SlotsIn B w SA sl) (hB : B ≤ w.heap.size) (hrn : rs.length = rn) (hrm : rn ≤ 1000) (hrs : ∀ r ∈ rs, r.ts.length ≤ 1000) (hU : UnitIn w) (hn : sl.length = n) (hm : n ≤ 1000) (hs : SmallSlots sl) (h1 : 1 ≤ m) (h0 : openE rs idle price sl = 0) (hok : TaskOk rs idle price sl) :
    CallsIn Fence.wide m Tryz.prog 14 #[.agg #[.slice RA rn rc], .agg #[.slice SA n c, .int .i64 idle, .int .i64 price]] w (CtrRet w (setL (contrV rs sl)) (setE (contrV rs sl))) := by
  have HO := Lib.hid (fun W (hW : Below w.heap.size w W) => open_any B rs RA rn rc sl SA n c idle price W (hrr.below (hW.mono hB)) (hr.below (hW.mono hB)) (Nat.le_trans hB hW.size) hrn hrm hrs (hU.below hW) hn hm hs)
  rw [h0] at HO
  have HPo := Lib.hid (fun W set CA m cc (hW : Below w.heap.size w W) (hx : IntsIn W.heap.size W CA set) (hm : set.length = m) (hm2 : m ≤ 1000) (hb : ∀ j, j < m → 0 ≤ set.getD j 0 ∧ set.getD j 0 < (rn : Int)) => isPossible_any W.heap.size rs RA rn rc sl SA n c idle price set CA m cc W ((hrr.below (hW.mono hB)).more (Nat.le_trans hB hW.size)) ((hr.below (hW.mono hB)).more (Nat.le_trans hB hW.size)) hx (Nat.le_refl _) hrn hn hm hm2 hok.s hok.r hb)
  have HT := Lib.hid (show contrV rs sl = firstS (clashB rs sl (allC (slotN sl))) rn rn by rw [← hrn]; rfl)
  have hr6 : rn ≤ 6 := by rw [← hrn]; exact hok.n
  clear hrr hr hrn hrs hU hn hs h0 hok
  generalize contrV rs sl = T at *
  generalize clashB rs sl (allC (slotN sl)) = P at *
  refine callsIn_of_wp_marks Tryz.func14 rfl trivial ?_ rfl
  simp only [undef, Tryz.ntmps14, List.size_toArray, List.length_cons, List.length_nil, Nat.reduceAdd, Nat.reduceSub, Array.replicate_succ, Array.replicate_zero, List.push_toArray, List.append_toArray, List.nil_append, List.cons_append]
  have HB0 := Lib.hid (show Below w.heap.size w ((((w.alloc (.cells #[.slice RA rn rc] 24)).alloc (.cells #[.slice SA n c, .int .i64 idle, .int .i64 price] 27)).alloc (.cells #[.slice none 0 0] 32)).alloc (.cells #[.int .i64 0] 33)) from pa (pa (pa (pa pr))))
  have R4 := Lib.hid (show Blk ((((w.alloc (.cells #[.slice RA rn rc] 24)).alloc (.cells #[.slice SA n c, .int .i64 idle, .int .i64 price] 27)).alloc (.cells #[.slice none 0 0] 32)).alloc (.cells #[.int .i64 0] 33)) (w.heap.size + 1 + 1) 32 #[.slice none 0 0] from (Blk.newAt (by simp)).alloc)
  have R5 := Lib.hid (show Blk ((((w.alloc (.cells #[.slice RA rn rc] 24)).alloc (.cells #[.slice SA n c, .int .i64 idle, .int .i64 price] 27)).alloc (.cells #[.slice none 0 0] 32)).alloc (.cells #[.int .i64 0] 33)) (w.heap.size + 1 + 1 + 1) 33 #[.int .i64 0] from Blk.newAt (by simp))
  gi_wp2_with (refine ⟨trivial, ?_⟩; gi_at_call 47; refine (callsIn_wide.2 (HO.out _ HB0.out)).mono ?_; rintro e w1 ⟨rfl, hb1⟩; have HB1 := Lib.hid (pt HB0.out hb1); have R4b := Lib.hid (R4.out.past hb1); have R5b := Lib.hid (R5.out.past hb1); have T6 := Lib.hid (show Blk (w1.alloc (.cells #[.slice SA n c, .int .i64 idle, .int .i64 price, .slice RA rn rc] 94)) w1.heap.size 94 #[.slice SA n c, .int .i64 idle, .int .i64 price, .slice RA rn rc] from Blk.newAt rfl); have q6 := T6.out.cellAt 3 rfl; have l6 := T6.out.lt; clear hb1)
  have HBv := Lib.hid (show Below w.heap.size w (w1.alloc (.cells #[.slice SA n c, .int .i64 idle, .int .i64 price, .slice RA rn rc] 94)) from pa HB1.out)
  have R4c := Lib.hid (show Blk (w1.alloc (.cells #[.slice SA n c, .int .i64 idle, .int .i64 price, .slice RA rn rc] 94)) (w.heap.size + 1 + 1) 32 #[.slice none 0 0] from R4b.out.alloc)
  have R5c := Lib.hid (show Blk (w1.alloc (.cells #[.slice SA n c, .int .i64 idle, .int .i64 price, .slice RA rn rc] 94)) (w.heap.size + 1 + 1 + 1) 33 #[.int .i64 0] from R5b.out.alloc)
  generalize (w1.alloc (.cells #[.slice SA n c, .int .i64 idle, .int .i64 price, .slice RA rn rc] 94)) = v0 at *
  generalize w1.heap.size = tb at *
  clear R4 R5 R4b R5b HB0 HB1 q6 l6 HO
  refine wpIn_loop (fun a' wr => ∃ (u8 u9 u22 u23 u24 u25 u26 u27 u28 u29 u30 u31 u32 u33 u34 u35 u36 u37 u38 : Value) (Ds : List Nat), (∃ k : Nat, u22 = .int .i64 (k : Int) ∧ k ≤ rn ∧ firstS P rn k = none ∧ Below v0.heap.size v0 wr ∧ CollIn w.heap.size Ds wr) ∧ a' = { tmps := #[.agg #[.slice RA rn rc], .agg #[.slice SA n c, .int .i64 idle, .int .i64 price], .pointer (some ⟨w.heap.size, 0, none⟩), .pointer (some ⟨w.heap.size + 1, 0, none⟩), .pointer (some ⟨w.heap.size + 1 + 1, 0, none⟩), .pointer (some ⟨w.heap.size + 1 + 1 + 1, 0, none⟩), .pointer (some ⟨tb, 0, none⟩), .int .i64 0, u8, u9, .tuple #[.agg #[.slice SA n c, .int .i64 idle, .int .i64 price, .slice RA rn rc], .int .i64 0], .agg #[.slice RA rn rc], .agg #[.slice SA n c, .int .i64 idle, .int .i64 price], .tuple #[.agg #[.slice SA n c, .int .i64 idle, .int .i64 price, .slice RA rn rc], .int .i64 0], .agg #[.slice SA n c, .int .i64 idle, .int .i64 price, .slice RA rn rc], .int .i64 0, .int .i64 0, .bool false, .tuple #[], .pointer (some ⟨tb, 3, none⟩), .slice RA rn rc, .int .i64 (rn : Int), u22, u23, u24, u25, u26, u27, u28, u29, u30, u31, u32, u33, u34, u35, u36, u37, u38], defers := coll Ds }) (fun a' _ => rn - (intOf (a'.tmps.getD 22 undef)).toNat) ?_ ?_
  · (repeat apply Exists.intro)
    exact ⟨⟨0, rfl, Nat.zero_le _, rfl, Below.refl _ _, ⟨List.nodup_nil, fun D hD => by cases hD⟩⟩, rfl⟩
  · rintro _ wo ⟨u8, u9, u22, u23, u24, u25, u26, u27, u28, u29, u30, u31, u32, u33, u34, u35, u36, u37, u38, Ds, ⟨k, rfl, hk, hno, hq, hC⟩, rfl⟩
    have HNo := Lib.hid hno
    have HQ := Lib.hid hq
    have HC := Lib.hid hC
    have hwv := HBv.out.size
    have hvo := hq.size
    clear hno hq hC
    by_cases hlt : k < rn
    · have hlt2 : (k : Int) < (rn : Int) := by omega
      have q3 := (T6.out.past HQ.out).cellAt 3 rfl
      have l3 := (T6.out.past HQ.out).lt
      gi_wp2_with (refine ⟨trivial, ?_⟩; gi_at_call 52; refine (callsIn_wide.2 (subsets_any _ _ _)).mono ?_; rintro e w' ⟨rfl, rfl⟩)
      have c1 : Blk ((wo.alloc (.cells #[.int .i64 (rn : Int)] 3)).alloc (.cells #[.int .i64 ((k : Int) + 1)] 3)) (wo.heap.size + 1) 3 #[.int .i64 ((k + 1 : Nat) : Int)] := Blk.newAt (by simp)
      have c2 : Blk ((wo.alloc (.cells #[.int .i64 (rn : Int)] 3)).alloc (.cells #[.int .i64 ((k : Int) + 1)] 3)) wo.heap.size 3 #[.int .i64 (rn : Int)] := (Blk.newAt rfl).alloc
      have hW0 : ((wo.alloc (.cells #[.int .i64 (rn : Int)] 3)).alloc (.cells #[.int .i64 ((k : Int) + 1)] 3)).heap.size = wo.heap.size + 1 + 1 := by simp
      have hb2 : Below wo.heap.size wo ((wo.alloc (.cells #[.int .i64 (rn : Int)] 3)).alloc (.cells #[.int .i64 ((k : Int) + 1)] 3)) := pa (pa pr)
      generalize (wo.alloc (.cells #[.int .i64 (rn : Int)] 3)).alloc (.cells #[.int .i64 ((k : Int) + 1)] 3) = W0 at *
      have HQ0 := Lib.hid (pt HQ.out hb2)
      have HQw := Lib.hid (pt HBv.out HQ0.out)
      have HD := Lib.hid (fun D hD => HC.out.lt (D := D) hD)
      have HCk := Lib.hid (fun W (hW : Below W0.heap.size W0 W) => (show CollIn w.heap.size Ds W from ⟨HC.out.nodup, fun D hD => ⟨(HC.out.at_ D hD).1, (hW.block D (by have := HD.out D hD; omega)).trans ((hb2.block D (HD.out D hD)).trans (HC.out.at_ D hD).2)⟩⟩))
      have HFn := Lib.hid (fun s (hf : (allS rn (k + 1) 0).find? P = some s) => (show T = some s by
        rw [HT.out]
        have key : ∀ d, k + 1 ≤ d → firstS P rn d = some s := by
          intro d hd
          induction d with
          | zero => omega
          | succ d ih =>
            rw [firstS]
            by_cases e : k + 1 ≤ d
            · rw [ih e]
            · obtain rfl : d = k := by omega
              rw [HNo.out]
              exact hf
        exact key rn (by omega)))
      have HNx := Lib.hid (fun (h : (allS rn (k + 1) 0).find? P = none) => (show firstS P rn (k + 1) = none by rw [firstS, HNo.out]; exact h))
      clear q3 l3
      refine rangeFunc_lawG h1 (gf := 85) (fb := #[]) (lb := #[.pointer (some ⟨wo.heap.size + 1, 0, none⟩), .pointer (some ⟨wo.heap.size, 0, none⟩)]) rfl (enters_of Tryz.func85 (by kernel_rfl) rfl)
        (subsets_seq (m - 1) (k + 1) rn (by omega) (by omega) (by omega) (wo.heap.size + 1) wo.heap.size wo.heap.size W0 (by omega) (by omega) (by omega) (Nat.le_refl _) c1 c2) (Below.refl _ _)
        (fun h q => h.trans q) (fun G W A l o o' hG hl hl2 ho hc => KeepG.put o' (fun q hq => by have := hq.2; omega) (fun q hq => by have := hG q hq; omega))
        (fun G x A l o o' ho hc hp => hp.put o' ho hc) (fun x => rfl)
        (fun G (pre : List RowI) W => (∀ x ∈ pre.map (·.2), P x = false) ∧ Below W0.heap.size W0 W)
        (fun G c pre W => c = .ret ∧ ∃ xs0 x A1 c1, pre.map (·.2) = xs0 ++ [x] ∧ (∀ y ∈ xs0, P y = false) ∧ P x = true ∧ Blk W (w.heap.size + 1 + 1) 32 #[.slice A1 x.length c1] ∧ W.ownsRow w.heap.size 3 1 (.slice A1 x.length c1) x.length (x.map (Value.int .i64)) ∧ Blk W (w.heap.size + 1 + 1 + 1) 33 #[.int .i64 0] ∧ Below w.heap.size w W ∧ CollIn w.heap.size Ds W)
        (fun G hG s W W' row hs hg hr => ⟨hs.1, below_grown hs.2 hs.2.size hg (fun r e => by
          rcases hr r e with h2 | ⟨h2, _⟩
          · have := hG r h2; omega
          · exact h2)⟩)
        (fun G c s A B row hs hg hr => by
          obtain ⟨e, xs0, x, A1, c1, h1, h2, h3, h4, h5, h6, h7, h8⟩ := hs
          refine ⟨e, xs0, x, A1, c1, h1, h2, h3, own_blk _ _ _ _ s A B row h4 hg hr, own_row W0.heap.size w.heap.size 3 1 _ _ _ s A B row h5 hg hr, own_blk _ _ _ _ s A B row h6 hg hr, ownFrom_below (Nat.le_refl _) HQw.out.size s A B row h7 hg hr, ⟨h8.nodup, fun D hD => ⟨(h8.at_ D hD).1, (hg.block D (h8.lt hD) (fun e => by
            have h9 := HD.out D hD
            obtain ⟨h10, _⟩ := hr D e.symm
            omega)).trans (h8.at_ D hD).2⟩⟩⟩)
        (fun G hG => ⟨fun x hx => by simp at hx, Below.refl _ _⟩)
        (fun x => { tmps := #[.agg #[.slice RA rn rc], .agg #[.slice SA n c, .int .i64 idle, .int .i64 price], .pointer (some ⟨w.heap.size, 0, none⟩), .pointer (some ⟨w.heap.size + 1, 0, none⟩), .pointer (some ⟨w.heap.size + 1 + 1, 0, none⟩), .pointer (some ⟨w.heap.size + 1 + 1 + 1, 0, none⟩), .pointer (some ⟨tb, 0, none⟩), .int .i64 0, .int .i64 (k : Int), .slice x.1.1 (k + 1) x.1.2, .tuple #[.agg #[.slice SA n c, .int .i64 idle, .int .i64 price, .slice RA rn rc], .int .i64 0], .agg #[.slice RA rn rc], .agg #[.slice SA n c, .int .i64 idle, .int .i64 price], .tuple #[.agg #[.slice SA n c, .int .i64 idle, .int .i64 price, .slice RA rn rc], .int .i64 0], .agg #[.slice SA n c, .int .i64 idle, .int .i64 price, .slice RA rn rc], .int .i64 0, .int .i64 0, .bool false, .tuple #[], .pointer (some ⟨tb, 3, none⟩), .slice RA rn rc, .int .i64 (rn : Int), .int .i64 (k : Int), .bool true, .int .i64 (k : Int), .pointer (some ⟨tb, 3, none⟩), .slice RA rn rc, .int .i64 (rn : Int), .int .i64 (k : Int), .int .i64 ((k : Int) + 1), .func (.func 85) #[] #[.pointer (some ⟨wo.heap.size + 1, 0, none⟩), .pointer (some ⟨wo.heap.size, 0, none⟩)], .slice x.1.1 (k + 1) x.1.2, u32, u33, u34, u35, u36, u37, u38], defers := [] })
        ?assign ?body ?done ?stop
      case assign =>
        intro l x W K hK
        unfold rowEnc
        gi_wp2
        exact hK
      case body =>
        rintro l G pre ⟨⟨X, cX⟩, xs⟩ Wb W hG hWb ⟨hno, hq⟩ ⟨⟨hx1, hx2, hx3⟩, hx4, hx5⟩ hlen
        dsimp only at hx1 hx2 hx3 hx5 ⊢
        have hbd := asc_bd (allS_mem.1 hx5).2
        rw [hx2] at hbd
        have hWsz := hq.size
        have HMe := Lib.hid (HPo.out W xs X (k + 1) cX (pt HQw.out hq) hx1.ints hx2 (by omega) hbd)
        have HCl := Lib.hid (fun W' (hW' : Below W.heap.size W W') => clone_any W.heap.size X (k + 1) cX xs W' (hx1.ints.below hW') hx2 hW'.size (by omega))
        have TW := Lib.hid (T6.out.past (pt HQ0.out hq))
        have t0 := TW.out.cellAt 0 rfl
        have t1 := TW.out.cellAt 1 rfl
        have t2 := TW.out.cellAt 2 rfl
        have t3 := TW.out.cellAt 3 rfl
        have tl := TW.out.lt
        have HX2 := Lib.hid hx2
        have HX4 := Lib.hid hx4
        have HNo2 := Lib.hid hno
        have HQx := Lib.hid hq
        have R4w := Lib.hid (R4c.out.past (pt HQ0.out hq))
        have R5w := Lib.hid (R5c.out.past (pt HQ0.out hq))
        clear hx1 hx2 hx3 hx4 hx5 hlen hno hq hbd
        generalize hpx : P xs = pb at *
        have HPx := Lib.hid hpx
        clear hpx
        cases pb
        · gi_wp2_with (refine ⟨trivial, (fun h => nomatch h), ?_⟩; gi_at_call 53; refine (callsIn_wide.2 HMe.out).mono ?_; rintro e w2 ⟨rfl, hb2⟩; have HP2 := Lib.hid hb2; clear hb2 t0 t1 t2 t3 tl)
          refine ⟨(keeps_below HP2.out).from _, KeepG.of_below HP2.out (fun q hq => by have := hq.2; omega) HX4.out, ?_, pt HQx.out HP2.out⟩
          intro x hx
          rw [List.map_append, List.mem_append] at hx
          rcases hx with hx | hx
          · exact HNo2.out x hx
          · have e : x = xs := by simpa using hx
            subst e
            exact HPx.out
        · gi_wp2_with (first
            | (refine ⟨trivial, (fun h => nomatch h), ?_⟩; gi_at_call 53; refine (callsIn_wide.2 HMe.out).mono ?_; rintro e w2 ⟨rfl, hb2⟩; have HP2 := Lib.hid hb2; clear hb2 t0 t1 t2 t3 tl)
            | (refine ⟨trivial, (fun h => nomatch h), ?_⟩; gi_at_call 51; refine (callsIn_wide.2 (HCl.out _ HP2.out)).mono ?_; rintro e w4 ⟨v4, rfl, hown, hb3⟩; rw [HX2.out] at hown; obtain ⟨g4, c4, rfl⟩ := own_some hown (Nat.succ_pos k); have HO4 := Lib.hid hown; have HP3 := Lib.hid (pt HP2.out hb3); have K4 := Lib.hid (R4w.out.past HP3.out); have K5 := Lib.hid (R5w.out.past HP3.out); have p4 := K4.out.cellAt 0 rfl; have f4 := K4.out.frozen 0; have z4 := K4.out.lt; have p5 := K5.out.cellAt 0 rfl; have f5 := K5.out.frozen 0; have z5 := K5.out.lt; clear hown hb3))
          refine ⟨((keeps_below HP3.out).trans ((KeepsOthers.setCell _ _ _).trans (KeepsOthers.setCell _ _ _))).from _, rfl, pre.map (·.2), xs, some ⟨g4, 0, none⟩, c4, by simp, HNo2.out, HPx.out, ?_, ?_, ?_, ?_, ?_⟩
          · rw [HX2.out]
            exact (by simpa using K4.out.set_ 0 (.slice (some ⟨g4, 0, none⟩) (k + 1) c4) : Blk _ _ _ #[Value.slice (some ⟨g4, 0, none⟩) (k + 1) c4]).far (by dsimp only; omega)
          · rw [HX2.out]
            exact own_cellT (own_cellT (own_base HO4.out (by have := HP2.out.size; have := HQw.out.size; omega)) K4.out (by decide) rfl _) ((K5.out.far (p := ⟨w.heap.size + 1 + 1, 0, none⟩) (by dsimp only; omega))) (by decide) rfl _
          · simpa using (K5.out.far (p := ⟨w.heap.size + 1 + 1, 0, none⟩) (u := .slice (some ⟨g4, 0, none⟩) (k + 1) c4) (by dsimp only; omega)).set_ 0 (.int .i64 0)
          · exact ps (ps (pt (pt HQw.out HQx.out) HP3.out) (by dsimp only; omega)) (by dsimp only; omega)
          · exact (HCk.out W HQx.out).keeps ((keeps_below HP3.out).trans ((KeepsOthers.setCell _ _ _).trans (KeepsOthers.setCell _ _ _)))
      case done =>
        rintro G D ys W hD hS ⟨hno, hq⟩ hK
        have HN2 := Lib.hid (HNx.out (by
          rw [show List.map Prod.snd ys = allS rn (k + 1) 0 from hS] at hno
          rw [List.find?_eq_none]
          intro x hx h
          rw [hno x hx] at h
          cases h))
        have HC3 := Lib.hid ((HCk.out W hq).cons (Nat.le_trans HQw.out.size hD) hK (fun D' h => by have := HD.out D' h; omega))
        have HQx := Lib.hid (pt HQ0.out hq)
        clear hno hq hS
        gi_wp2
        refine ⟨⟨_, _, _, _, _, _, _, _, _, _, _, _, _, _, _, _, _, _, _, D :: Ds, ⟨k + 1, by go_num, by omega, HN2.out, HQx.out, HC3.out⟩, rfl⟩, ?_⟩
        simp [intOf]; omega
      case stop =>
        rintro G D c' pre W hD hSp ⟨rfl, xs0, x, A1, c1, hpe, hf, hx, h4, h5, h6, h7, h8⟩ hK
        have HTx := Lib.hid (HFn.out x (by
          obtain ⟨_, t, ht⟩ := hSp
          rw [← ht, hpe, List.append_assoc, List.find?_append, List.find?_eq_none.2 (fun y hy h => by rw [hf y hy] at h; cases h), List.singleton_append, List.find?_cons, hx]
          rfl))
        have HC3 := Lib.hid (h8.cons (Nat.le_trans HQw.out.size hD) hK (fun D' h => by have := HD.out D' h; omega))
        have H4 := Lib.hid h4
        have H5 := Lib.hid h5
        have H6 := Lib.hid h6
        have H7 := Lib.hid h7
        clear hpe hf hx h4 h5 h6 h7 h8
        gi_wp2
        refine leaves_coll (B := w.heap.size) (Ds := D :: Ds) HC3.out (fun W' hW' hk' => ?_)
        have e0 := cell_keeps hk' (H4.out.cellAt 0 rfl)
        have e1 := cell_keeps hk' (H6.out.cellAt 0 rfl)
        refine ⟨.tuple #[.slice A1 x.length c1, .int .i64 0], by simp [results, Tryz.results14, go_sem, e0, e1], ?_⟩
        rw [HTx.out]
        refine ⟨A1, c1, rfl, ?_, own_cap H5.out, H7.out.trans hW'⟩
        rcases intsIn_of_own H5.out with h | ⟨b, off, q4, q6, q7⟩
        · exact .inl h
        · exact .inr ⟨b, off, q4, Nat.lt_of_lt_of_le q6 hW'.size, fun j hj => cell_keeps hk' (q7 j hj)⟩
    · have hke : k = rn := by omega
      subst hke
      have hlt2 : ¬ (k : Int) < (k : Int) := by omega
      have HE := Lib.hid (HT.out.trans HNo.out)
      have K4 := Lib.hid (R4c.out.past HQ.out)
      have K5 := Lib.hid (R5c.out.past HQ.out)
      have p4 := K4.out.cellAt 0 rfl
      have f4 := K4.out.frozen 0
      have z4 := K4.out.lt
      have p5 := K5.out.cellAt 0 rfl
      have f5 := K5.out.frozen 0
      have z5 := K5.out.lt
      gi_wp2
      have P4 := Lib.hid (show Blk ((wo.setCell ⟨w.heap.size + 1 + 1, 0, none⟩ (.slice none 0 0)).setCell ⟨w.heap.size + 1 + 1 + 1, 0, none⟩ (.int .i64 12)) (w.heap.size + 1 + 1) 32 #[.slice none 0 0] from (by simpa using K4.out.set_ 0 (.slice none 0 0) : Blk _ _ _ #[Value.slice none 0 0]).far (by dsimp only; omega))
      have P5 := Lib.hid (show Blk ((wo.setCell ⟨w.heap.size + 1 + 1, 0, none⟩ (.slice none 0 0)).setCell ⟨w.heap.size + 1 + 1 + 1, 0, none⟩ (.int .i64 12)) (w.heap.size + 1 + 1 + 1) 33 #[.int .i64 12] from by simpa using (K5.out.far (p := ⟨w.heap.size + 1 + 1, 0, none⟩) (u := .slice none 0 0) (by dsimp only; omega)).set_ 0 (.int .i64 12))
      refine leaves_coll (B := w.heap.size) (HC.out.keeps ((KeepsOthers.setCell _ _ _).trans (KeepsOthers.setCell _ _ _))) (fun W' hW' hk' => ?_)
      have e0 := cell_keeps hk' (P4.out.cellAt 0 rfl)
      have e1 := cell_keeps hk' (P5.out.cellAt 0 rfl)
      refine ⟨.tuple #[.slice none 0 0, .int .i64 12], by simp [results, Tryz.results14, go_sem, e0, e1], ?_⟩
      rw [HE.out]
      exact ⟨none, 0, rfl, .inl rfl, Nat.zero_le _, (ps (ps (pt HBv.out HQ.out) (by dsimp only; omega)) (by dsimp only; omega)).trans hW'⟩

/-- The contract of Contradicting for whatever numbers. -/
def ctrE (rs : List DReq) (idle price : Int) (sl : List (List DPart)) : Int := if openE rs idle price sl = 0 then setE (contrV rs sl) else openE rs idle price sl
def ctrL (rs : List DReq) (idle price : Int) (sl : List (List DPart)) : List Int := if openE rs idle price sl = 0 then setL (contrV rs sl) else []
theorem contradicting_any (B : Nat) (rs : List DReq) (RA : Option Addr) (rn rc : Nat) (sl : List (List DPart)) (SA : Option Addr) (n c : Nat) (idle price : Int) (w : World) (hrr : ReqsIn B w RA rs) (hr : SlotsIn B w SA sl) (hB : B ≤ w.heap.size) (hrn : rs.length = rn) (hrm : rn ≤ 1000) (hrs : ∀ r ∈ rs, r.ts.length ≤ 1000) (hU : UnitIn w) (hn : sl.length = n) (hm : n ≤ 1000) (hs : SmallSlots sl) (h6 : Six sl) :
    Calls Tryz.prog 14 #[.agg #[.slice RA rn rc], .agg #[.slice SA n c, .int .i64 idle, .int .i64 price]] w (CtrRet w (ctrL rs idle price sl) (ctrE rs idle price sl)) := by
  unfold ctrL ctrE
  by_cases h0 : openE rs idle price sl = 0
  · rw [if_pos h0, if_pos h0]
    exact callsIn_wide.1 (contradicting_in 1 B rs RA rn rc sl SA n c idle price w hrr hr hB hrn hrm hrs hU hn hm hs (Nat.le_refl _) h0 (openE_ok h6 h0))
  · rw [if_neg h0, if_neg h0]
    exact contradicting_err B rs RA rn rc sl SA n c idle price w hrr hr hB hrn hrm hrs hU hn hm hs h0

end Go.Proofs.YtncbigkkmgnkmaaGreatDoor
end

section
namespace Go.Proofs.YtncbigkkmgnkmaaGreatDoor
open Go.RowKit
attribute [local go_sem high] maxI

theorem mulm_bd {a b : Int} (h0 : 0 ≤ a) (h1 : a ≤ 300) (h2 : 0 ≤ b) (h3 : b ≤ 1000) : 0 ≤ a * b ∧ a * b ≤ 300000 := by
  have h4 := Int.mul_le_mul h1 h3 h2 (by decide : (0 : Int) ≤ 300)
  exact ⟨Int.mul_nonneg h0 h2, h4⟩

/-- The number of choices of the first slots, or one above 300. -/
def lightN (sl : List (List DPart)) : Nat → Int
  | 0 => 1
  | k + 1 => if lightN sl k ≤ 300 then lightN sl k * max 1 ((sl.getD k []).length : Int) else lightN sl k
def lightB (sl : List (List DPart)) : Bool := decide (lightN sl sl.length ≤ 300)
theorem light_stays {sl : List (List DPart)} {i : Nat} (h : ¬ lightN sl i ≤ 300) : ∀ d, lightN sl (i + d) = lightN sl i
  | 0 => rfl
  | d + 1 => by
    rw [← Nat.add_assoc, lightN, light_stays h d, if_neg h]

set_option maxRecDepth 100000 in
set_option maxHeartbeats 4000000 in
theorem light_any (B : Nat) (sl : List (List DPart)) (A : Option Addr) (n c : Nat) (idle price : Int) (w : World) (hr : SlotsIn B w A sl) (hB : B ≤ w.heap.size) (hn : sl.length = n) (hn1 : n ≤ 1000) (hs : ∀ l ∈ sl, l.length ≤ 1000) :
    Calls Tryz.prog 10 #[.agg #[.slice A n c, .int .i64 idle, .int .i64 price]] w fun e w' => e = .returned (.bool (lightB sl)) ∧ Below w.heap.size w w' := by
  have HR := Lib.hid hr
  have HS := Lib.hid hs
  have HN := Lib.hid hn
  clear hr hs hn
  have K0 := Lib.hid (show Blk (w.alloc (.cells #[.slice A n c, .int .i64 idle, .int .i64 price] 27)) w.heap.size 27 #[.slice A n c, .int .i64 idle, .int .i64 price] from Blk.newAt rfl)
  have HB0 := Lib.hid (show Below w.heap.size w (w.alloc (.cells #[.slice A n c, .int .i64 idle, .int .i64 price] 27)) from pa pr)
  go_enter Tryz.func10, Tryz.ntmps10
  go_wp2
  generalize w.alloc (.cells #[.slice A n c, .int .i64 idle, .int .i64 price] 27) = w0 at *
  go_loopw [3, 4] (fun nv iv wr => ∃ (N : Int) (i : Nat), nv = .int .i64 N ∧ iv = .int .i64 (i : Int) ∧ i ≤ n ∧ lightN sl i = N ∧ 0 ≤ N ∧ N ≤ 300000 ∧ Below w0.heap.size w0 wr) (fun _ iv _ => n - (intOf iv).toNat)
  case atStart => exact ⟨1, 0, rfl, rfl, Nat.zero_le _, rfl, by decide, by decide, pr⟩
  case round =>
    obtain ⟨N, i, rfl, rfl, hi, hNe, hN0, hN1, hq⟩ := hrel
    have HNe := Lib.hid hNe
    clear hNe
    have HQ := Lib.hid hq
    have k0 := (K0.out.past hq).cellAt 0 rfl
    have kl := (K0.out.past hq).lt
    clear hq
    by_cases hlt : i < n
    · have d1 : decide (i < n) = true := decide_eq_true hlt
      by_cases hle : N ≤ 300
      · have hi' : i < sl.length := by rw [HN.out]; exact hlt
        obtain ⟨b, off, rfl, hb, hct⟩ := HR.out.at_ hi'
        obtain ⟨A2, c2, e1, _, _⟩ := hct i hi'
        have hl2 := HS.out (sl.getD i []) (getD_mem' hi')
        have hbw : b < wr.heap.size := by have := HB0.out.size; have := HQ.out.size; omega
        have e2 : wr.cell? ⟨b, off + i, none⟩ = some (.slice A2 (sl.getD i []).length c2) := ((bcell (pt HB0.out HQ.out)).1 _ _ (Nat.lt_of_lt_of_le hb hB)).trans e1
        have i0 : (0 : Int) ≤ (i : Int) := by omega
        have i1 : (i : Int) < (n : Int) := by omega
        have HSt := Lib.hid (show lightN sl (i + 1) = N * max 1 ((sl.getD i []).length : Int) by rw [lightN, HNe.out, if_pos hle])
        generalize (sl.getD i []).length = ln at *
        obtain ⟨mx, hmx⟩ : ∃ mx : Int, max (1 : Int) (ln : Int) = mx := ⟨_, rfl⟩
        rw [hmx] at HSt
        have hbd := mulm_bd hN0 hle (show 0 ≤ mx by omega) (show mx ≤ 1000 by omega)
        have hw : IntKind.i64.wrap (N * mx) = N * mx := IntWalk.i64_in _ (by omega)
        clear hct e1
        go_wp2
        go_roundw
        case rel => exact ⟨N * mx, i + 1, rfl, by go_num, by omega, HSt.out, hbd.1, hbd.2, HQ.out⟩
        case measure => simp [intOf]; omega
      · have d2 : decide (N ≤ 300) = false := decide_eq_false hle
        have HB := Lib.hid (show lightB sl = false by
          have h := light_stays (sl := sl) (i := i) (by rw [HNe.out]; exact hle) (n - i)
          unfold lightB
          rw [HN.out, show n = i + (n - i) by omega, h, HNe.out, d2])
        go_wp2
        refine bodyPost_ret (v := .bool false) (by simp [results, Tryz.results10, go_sem]) rfl ⟨by rw [HB.out], pt HB0.out HQ.out⟩
    · have d1 : decide (i < n) = false := decide_eq_false hlt
      have d3 : ¬ (i : Int) < (n : Int) := by omega
      have hin : i = n := by omega
      have HB0x := Lib.hid (show lightB sl = decide (N ≤ 300) by
        unfold lightB
        rw [HN.out, ← hin, HNe.out])
      clear hin
      by_cases hle : N ≤ 300
      · have HB := Lib.hid (show lightB sl = true by rw [HB0x.out, decide_eq_true hle])
        go_wp2
        refine bodyPost_ret (v := .bool true) (by simp [results, Tryz.results10, go_sem]) rfl ⟨by rw [HB.out], pt HB0.out HQ.out⟩
      · have HB := Lib.hid (show lightB sl = false by rw [HB0x.out, decide_eq_false hle])
        go_wp2
        refine bodyPost_ret (v := .bool false) (by simp [results, Tryz.results10, go_sem]) rfl ⟨by rw [HB.out], pt HB0.out HQ.out⟩

theorem chea_sizes {rs : List DReq} {idle price : Int} {sl : List (List DPart)} (h0 : 0 < rs.length) : contrV rs sl = none ↔ cheaF rs idle price sl (allC (slotN sl)) ≠ none := by
  have h := contr_iff (rs := rs) h0 (sl := sl) (cost := costC idle price sl)
  have e : (fun c => meetsV rs sl c == 2) = meetB rs sl := by
    funext c
    unfold meetB
    by_cases h2 : meetsV rs sl c = 2 <;> simp [h2]
  rw [e] at h
  exact h
/-- Cheapest at a valid task. -/
theorem cheapest_ok (B : Nat) (rs : List DReq) (RA : Option Addr) (rn rc : Nat) (sl : List (List DPart)) (SA : Option Addr) (n c : Nat) (idle price : Int) (w : World) (hrr : ReqsIn B w RA rs) (hr : SlotsIn B w SA sl) (hB : B ≤ w.heap.size) (hrn : rs.length = rn) (hrm : rn ≤ 1000) (hrs : ∀ r ∈ rs, r.ts.length ≤ 1000) (hU : UnitIn w) (hn : sl.length = n) (hm : n ≤ 1000) (hs : SmallSlots sl) (h6 : Six sl) (h0 : openE rs idle price sl = 0) :
    Calls Tryz.prog 11 #[.agg #[.slice RA rn rc], .agg #[.slice SA n c, .int .i64 idle, .int .i64 price]] w (StepsRet w (cheaL (cheaF rs idle price sl (allC (slotN sl)))) (cheaN (cheaF rs idle price sl (allC (slotN sl)))) (cheaE (cheaF rs idle price sl (allC (slotN sl))))) :=
  cheapest_any B rs RA rn rc sl SA n c idle price w hrr hr hB hrn hrm hrs hU hn hm hs (fun h => (openE_ok h6 h).s) (fun h => (openE_ok h6 h).r) (fun h => (openE_ok h6 h).i) (fun h => (openE_ok h6 h).p) h0

end Go.Proofs.YtncbigkkmgnkmaaGreatDoor
end
