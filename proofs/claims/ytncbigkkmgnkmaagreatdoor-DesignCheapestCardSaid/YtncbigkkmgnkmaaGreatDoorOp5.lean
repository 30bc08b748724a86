/- Contract: Contradicting (the specification). Printed by a program (gen_e1ctr.py).
Contract: isPossible (package design). Printed by a program (gen_e2pos.py). -/
import Derived.Test.YtncbigkkmgnkmaaGreatDoorOp4
import Derived.Test.YtncbigkkmgnkmaaGreatDoorOe1

section
namespace Go.Proofs.YtncbigkkmgnkmaaGreatDoor
open Go.RowKit

theorem clash_chea {rs : List DReq} {sl : List (List DPart)} {idle price : Int} {set : List Int} : clashB rs sl (allC (slotN sl)) set = (cheaF (pickR rs set) idle price sl (allC (slotN sl))).isNone := by
  have h := clash_none (rs := rs) (sl := sl) (cs := allC (slotN sl)) (set := set) (cost := costC idle price sl)
  have e : (fun c => meetsV (pickR rs set) sl c == 2) = meetB (pickR rs set) sl := by
    funext c
    unfold meetB
    by_cases h2 : meetsV (pickR rs set) sl c = 2 <;> simp [h2]
  rw [e] at h
  unfold cheaF
  generalize cheapV (meetB (pickR rs set) sl) (costC idle price sl) (allC (slotN sl)) = T at *
  cases T with
  | none => exact h.2 rfl
  | some x =>
    cases hc : clashB rs sl (allC (slotN sl)) set with
    | false => rfl
    | true => exact absurd (h.1 hc) (by simp)
theorem pickR_ok {rs : List DReq} (h : ∀ r ∈ rs, ReqOk r) {set : List Int} (hs : ∀ j, j < set.length → 0 ≤ set.getD j 0 ∧ set.getD j 0 < (rs.length : Int)) : ∀ r ∈ pickR rs set, ReqOk r := by
  intro r hr
  unfold pickR at hr
  obtain ⟨i, hi, rfl⟩ := List.mem_map.1 hr
  obtain ⟨j, hj, rfl⟩ := List.getElem_of_mem hi
  have h2 := hs j hj
  have e : set.getD j 0 = set[j] := by simp [List.getD, hj]
  rw [e] at h2
  exact h _ (getD_mem' (by omega))
theorem find_drop {P : List Int → Bool} {LL : List (List Int)} {j : Nat} (h : j < LL.length) : (LL.drop j).find? P = if P (LL.getD j []) = true then some (LL.getD j []) else (LL.drop (j + 1)).find? P := by
  have e : LL.drop j = LL.getD j [] :: LL.drop (j + 1) := by
    rw [List.drop_eq_getElem_cons h]
    simp [List.getD, h]
  rw [e, List.find?_cons]
  cases P (LL.getD j []) <;> simp
/-- The first set that contradicts, and whether there is one. -/
def SetRet (w : World) (T : Option (List Int)) (e : Ending) (w' : World) : Prop :=
  Below w.heap.size w w' ∧ ((T = none ∧ e = .returned (.tuple #[.slice none 0 0, .bool false])) ∨ ∃ l b o c, T = some l ∧ e = .returned (.tuple #[.slice (some ⟨b, o, none⟩) l.length c, .bool true]) ∧ l.length ≤ c ∧ IntsIn w'.heap.size w' (some ⟨b, o, none⟩) l)

set_option maxHeartbeats 4000000 in
set_option maxRecDepth 100000 in
theorem refContradicting_any (B : Nat) (rs : List DReq) (RA : Option Addr) (rn rc : Nat) (sl : List (List DPart)) (SA : Option Addr) (n c : Nat) (idle price : Int) (w : World) (hrr : ReqsIn B w RA rs) (hr : SlotsIn B w SA sl) (hB : B ≤ w.heap.size) (hrn : rs.length = rn) (hrm : rn ≤ 6) (hn : sl.length = n) (hs : SlotsOk sl) (hrs : ∀ r ∈ rs, ReqOk r) (h1 : 0 ≤ idle ∧ idle ≤ 1000) (h2 : 0 ≤ price ∧ price ≤ 1000) :
    Calls Tryz.prog 16 #[.agg #[.slice RA rn rc], .agg #[.slice SA n c, .int .i64 idle, .int .i64 price]] w (SetRet w (contrV rs sl)) := by
  have HOn := Lib.hid (fun W set CA m cc (hW : Below w.heap.size w W) (hx : IntsIn W.heap.size W CA set) (hm : set.length = m) (hm2 : m ≤ 1000) (hb : ∀ j, j < m → 0 ≤ set.getD j 0 ∧ set.getD j 0 < (rn : Int)) => only_any W.heap.size rs RA rn rc set CA m cc W ((hrr.below (hW.mono hB)).more (Nat.le_trans hB hW.size)) hx (Nat.le_refl _) hrn hm hm2 hb)
  have HCp := Lib.hid (fun W set A2 m c2 (hW : Below w.heap.size w W) (hq : ReqsIn W.heap.size W A2 (pickR rs set)) (hm : set.length = m) (hm2 : m ≤ 1000) (hb : ∀ j, j < m → 0 ≤ set.getD j 0 ∧ set.getD j 0 < (rn : Int)) => refCheapest_any W.heap.size (pickR rs set) A2 m c2 sl SA n c idle price W hq ((hr.below (hW.mono hB)).more (Nat.le_trans hB hW.size)) (Nat.le_refl _) ((pick_len rs set).trans hm) hm2 hn hs (pickR_ok hrs (by rw [hm, hrn]; exact hb)) h1 h2)
  have HCl := Lib.hid (fun set => clash_chea (rs := rs) (sl := sl) (idle := idle) (price := price) (set := set))
  have HT := Lib.hid (show contrV rs sl = firstS (clashB rs sl (allC (slotN sl))) rn rn by rw [← hrn]; rfl)
  have HB0 := Lib.hid (show Below w.heap.size w ((w.alloc (.cells #[.slice RA rn rc] 24)).alloc (.cells #[.slice SA n c, .int .i64 idle, .int .i64 price] 27)) from pa (pa pr))
  have R0 := Lib.hid (show Blk ((w.alloc (.cells #[.slice RA rn rc] 24)).alloc (.cells #[.slice SA n c, .int .i64 idle, .int .i64 price] 27)) w.heap.size 24 #[.slice RA rn rc] from (Blk.newAt rfl).alloc)
  have K0 := Lib.hid (show Blk ((w.alloc (.cells #[.slice RA rn rc] 24)).alloc (.cells #[.slice SA n c, .int .i64 idle, .int .i64 price] 27)) (w.heap.size + 1) 27 #[.slice SA n c, .int .i64 idle, .int .i64 price] from Blk.newAt (by simp))
  have HLe := Lib.hid (fun set => (show (pickR rs set).length = set.length from pick_len rs set))
  clear hrr hr hrn hn hs hrs h1 h2
  generalize contrV rs sl = T at *
  generalize clashB rs sl (allC (slotN sl)) = P at *
  go_enter Tryz.func16, Tryz.ntmps16
  go_wp2
  generalize ((w.alloc (.cells #[.slice RA rn rc] 24)).alloc (.cells #[.slice SA n c, .int .i64 idle, .int .i64 price] 27)) = w0 at *
  go_loopw [6] (fun sv wr => ∃ (k : Nat), sv = .int .i64 ((k : Int) + 1) ∧ k ≤ rn ∧ firstS P rn k = none ∧ Below w.heap.size w wr ∧ Below w0.heap.size w0 wr) (fun sv _ => rn + 1 - (intOf sv).toNat)
  case atStart => exact ⟨0, rfl, Nat.zero_le _, rfl, HB0.out, pr⟩
  case round =>
    obtain ⟨k, rfl, hk, hno, hq, hq0⟩ := hrel
    have HNo := Lib.hid hno
    have HQ := Lib.hid hq
    have R1 := Lib.hid (R0.out.past hq0)
    have K1 := Lib.hid (K0.out.past hq0)
    have HQ0 := Lib.hid hq0
    have x0 := R1.out.cellAt 0 rfl
    have xl := R1.out.lt
    clear hno hq hq0
    by_cases hlt : k < rn
    · have hle : (k : Int) + 1 ≤ (rn : Int) := by omega
      have HSub := Lib.hid (fun W => (show Calls Tryz.prog 55 #[.int .i64 (rn : Int), .int .i64 ((k : Int) + 1), .slice none 0 0] W (RowsRet W (allS rn (k + 1) 0)) by
        have h := refSubsets_any rn (k + 1) (by omega) (by omega) (k + 1) [] none 0 0 W rfl (by omega) (Nat.le_refl _) (.inl rfl) (by simp)
        rw [subs_nil, show ((k + 1 : Nat) : Int) = (k : Int) + 1 from rfl] at h
        exact h))
      have HFew := Lib.hid (show (allS rn (k + 1) 0).length ≤ 16777216 by rw [← subs_nil]; exact subsV_few (by omega) (k + 1) (by omega) [])
      have HMem := Lib.hid (fun l (h : l ∈ allS rn (k + 1) 0) => (show l.length = k + 1 ∧ ∀ j, j < k + 1 → 0 ≤ l.getD j 0 ∧ l.getD j 0 < (rn : Int) by
        obtain ⟨h1, h2⟩ := allS_mem.1 h
        have h3 := asc_bd h2
        rw [h1] at h3
        exact ⟨h1, h3⟩))
      have HNx := Lib.hid (show firstS P rn (k + 1) = (allS rn (k + 1) 0).find? P by rw [firstS, HNo.out])
      have HEnd := Lib.hid (fun s (h : (allS rn (k + 1) 0).find? P = some s) => (show T = some s by
        rw [HT.out]
        have key : ∀ d, k + 1 ≤ d → firstS P rn d = some s := by
          intro d hd
          induction d with
          | zero => omega
          | succ d ih =>
            rw [firstS]
            by_cases e : k + 1 ≤ d
            · rw [ih e]
            · obtain rfl : d = k := by omega
              rw [HNo.out]
              exact h
        exact key rn (by omega)))
      generalize allS rn (k + 1) 0 = LL at *
      go_wp2_with (go_at_call 55; go_must (refine (HSub.out _).mono ?_); rintro e w1 ⟨Al, cl, us, rfl, hown, hrows, hb1⟩)
      have HQ1 := Lib.hid (pt HQ.out hb1)
      have R2 := Lib.hid (R1.out.past hb1)
      have K2 := Lib.hid (K1.out.past hb1)
      have HQ01 := Lib.hid (pt HQ0.out hb1)
      have HRow := Lib.hid fun j (hj : j < LL.length) => row_atC hown hrows hj
      clear hown hrows hb1 HSub R1 K1 x0 xl
      go_loopw [8] (fun jv wr => ∃ (j : Nat), jv = .int .i64 (j : Int) ∧ j ≤ LL.length ∧ LL.find? P = (LL.drop j).find? P ∧ Below w1.heap.size w1 wr) (fun jv _ => LL.length - (intOf jv).toNat)
      case atStart => exact ⟨0, rfl, Nat.zero_le _, rfl, pr⟩
      case round =>
        obtain ⟨j, rfl, hj, hfi, hq⟩ := hrel
        have hfew := HFew.out
        have HQ2 := Lib.hid hq
        have HQw := Lib.hid (pt HQ1.out hq)
        have RW := Lib.hid (R2.out.past hq)
        have KW := Lib.hid (K2.out.past hq)
        clear hq
        by_cases hlj : j < LL.length
        · obtain ⟨b, off, A4, c4, hAl, hbl, hcl, hcap, hil⟩ := HRow.out j hlj
          have hbw : b < wr.heap.size := Nat.lt_of_lt_of_le hbl HQ2.out.size
          obtain ⟨hll, hbd⟩ := HMem.out (LL.getD j []) (by simp [List.getD, hlj])
          rw [find_drop hlj] at hfi
          have HFi := Lib.hid hfi
          rw [hll] at hcl hcap
          have HCl2 := Lib.hid (HCl.out (LL.getD j []))
          have HOn2 := Lib.hid (fun W hW hx => HOn.out W (LL.getD j []) A4 (k + 1) c4 hW hx hll (by omega) hbd)
          have HCp2 := Lib.hid (fun W A2 c2 hW hq => HCp.out W (LL.getD j []) A2 (k + 1) c2 hW hq hll (by omega) hbd)
          have HLe2 := Lib.hid ((HLe.out (LL.getD j [])).trans hll)
          have j0 : (0 : Int) ≤ (j : Int) := by omega
          have j1 : (j : Int) < (LL.length : Int) := by omega
          obtain ⟨xb, xo, hA4, _, _⟩ := hil.at_ (k := 0) (by omega)
          subst hA4
          subst hAl
          have HLl := Lib.hid hll
          have HIl := Lib.hid (fun W (hW : Below wr.heap.size wr W) => (show IntsIn W.heap.size W (some ⟨xb, xo, none⟩) (LL.getD j []) from (hil.below (HQ2.out.trans (hW.mono HQ2.out.size))).more (Nat.le_trans HQ2.out.size hW.size)))
          have HC4 := Lib.hid (fun W (hW : Below wr.heap.size wr W) => (show W.cell? ⟨b, off + j, none⟩ = some (.slice (some ⟨xb, xo, none⟩) (k + 1) c4) from ((bcell hW).1 _ _ hbw).trans (((bcell HQ2.out).1 _ _ hbl).trans hcl)))
          clear hll hcl hil hbd hfi
          generalize LL.getD j [] = xs at *
          generalize hpx : P xs = pb at *
          have hcapL := Lib.hid hcap
          clear hcap
          go_wp2
          have HSS := Lib.hid (show ∀ W, Below wr.heap.size wr W → W.cell? ⟨w.heap.size, 0, none⟩ = some (.slice RA rn rc) ∧ W.cell? ⟨w.heap.size + 1, 0, none⟩ = some (.slice SA n c) ∧ W.cell? ⟨w.heap.size + 1, 1, none⟩ = some (.int .i64 idle) ∧ W.cell? ⟨w.heap.size + 1, 2, none⟩ = some (.int .i64 price) ∧ W.cell? ⟨b, off + j, none⟩ = some (.slice (some ⟨xb, xo, none⟩) (k + 1) c4) from fun W hW => ⟨(RW.out.past hW).cellAt 0 rfl, (KW.out.past hW).cellAt 0 rfl, (KW.out.past hW).cellAt 1 rfl, (KW.out.past hW).cellAt 2 rfl, HC4.out W hW⟩)
          refine wp_region_G 14 follows_mixed (fun W => W.cell? ⟨w.heap.size, 0, none⟩ = some (.slice RA rn rc) ∧ W.cell? ⟨w.heap.size + 1, 0, none⟩ = some (.slice SA n c) ∧ W.cell? ⟨w.heap.size + 1, 1, none⟩ = some (.int .i64 idle) ∧ W.cell? ⟨w.heap.size + 1, 2, none⟩ = some (.int .i64 price) ∧ W.cell? ⟨b, off + j, none⟩ = some (.slice (some ⟨xb, xo, none⟩) (k + 1) c4)) (HSS.out _ (pd pr)) ?_
          intro hSd inv
          have HSd := Lib.hid hSd
          clear hSd
          have HB9 := Lib.hid (show Below wr.heap.size wr wr.drew from pd pr)
          refine wpAnyG_take (i := 0) (v := ?_) rfl (by kernel_rfl) (by kernel_rfl) (by kernel_rfl) (by kernel_rfl) (by kernel_rfl) (by decide) (by decide) inv (fun _ _ _ h => h) (Or.inl ⟨by rfl, ?_⟩) HSd.out ?_; rotate_left; (focus (intro W y1; obtain ⟨y1, y2, y3, y4, y5⟩ := y1; go_simp; (first | done | with_reducible rfl))); clear inv; intro inv; simp only [List.getElem_toArray, List.getElem_cons_zero, Act.put, List.setIfInBounds_toArray, List.set_cons_zero, List.set_cons_succ]
          refine wpAnyG_take (i := 1) (v := ?_) rfl (by kernel_rfl) (by kernel_rfl) (by kernel_rfl) (by kernel_rfl) (by kernel_rfl) (by decide) (by decide) inv (fun _ _ _ h => h) (Or.inl ⟨by rfl, ?_⟩) HSd.out ?_; rotate_left; (focus (intro W y1; obtain ⟨y1, y2, y3, y4, y5⟩ := y1; go_simp; (first | done | with_reducible rfl))); clear inv; intro inv; simp only [List.getElem_toArray, List.getElem_cons_zero, List.getElem_cons_succ, Act.put, List.setIfInBounds_toArray, List.set_cons_zero, List.set_cons_succ]
          refine wpAnyG_take (i := 2) (v := ?_) rfl (by kernel_rfl) (by kernel_rfl) (by kernel_rfl) (by kernel_rfl) (by kernel_rfl) (by decide) (by decide) inv (fun _ _ _ h => h) (Or.inl ⟨by rfl, ?_⟩) HSd.out ?_; rotate_left; (focus (intro W y1; obtain ⟨y1, y2, y3, y4, y5⟩ := y1; go_simp; (first | done | with_reducible rfl))); clear inv; intro inv; simp only [List.getElem_toArray, List.getElem_cons_zero, List.getElem_cons_succ, Act.put, List.setIfInBounds_toArray, List.set_cons_zero, List.set_cons_succ]
          refine wpAnyG_take (i := 3) (v := ?_) rfl (by kernel_rfl) (by kernel_rfl) (by kernel_rfl) (by kernel_rfl) (by kernel_rfl) (by decide) (by decide) inv (fun _ _ _ h => h) (Or.inl ⟨by rfl, ?_⟩) HSd.out ?_; rotate_left; (focus (intro W y1; obtain ⟨y1, y2, y3, y4, y5⟩ := y1; go_simp; (first | done | with_reducible rfl))); clear inv; intro inv; simp only [List.getElem_toArray, List.getElem_cons_zero, List.getElem_cons_succ, Act.put, List.setIfInBounds_toArray, List.set_cons_zero, List.set_cons_succ]
          refine wpAnyG_take (i := 4) (v := ?_) rfl (by kernel_rfl) (by kernel_rfl) (by kernel_rfl) (by kernel_rfl) (by kernel_rfl) (by decide) (by decide) inv (fun _ _ _ h => h) (Or.inl ⟨by rfl, ?_⟩) HSd.out ?_; rotate_left; (focus (intro W y1; obtain ⟨y1, y2, y3, y4, y5⟩ := y1; go_simp; (first | done | with_reducible rfl))); clear inv; intro inv; simp only [List.getElem_toArray, List.getElem_cons_zero, List.getElem_cons_succ, Act.put, List.setIfInBounds_toArray, List.set_cons_zero, List.set_cons_succ]
          refine wpAnyG_take (i := 6) (v := ?_) rfl (by kernel_rfl) (by kernel_rfl) (by kernel_rfl) (by kernel_rfl) (by kernel_rfl) (by decide) (by decide) inv (fun _ _ _ h => h) (Or.inl ⟨by rfl, ?_⟩) HSd.out ?_; rotate_left; (focus (intro W y1; obtain ⟨y1, y2, y3, y4, y5⟩ := y1; go_simp; (first | done | with_reducible rfl))); clear inv; intro inv; simp only [List.getElem_toArray, List.getElem_cons_zero, List.getElem_cons_succ, Act.put, List.setIfInBounds_toArray, List.set_cons_zero, List.set_cons_succ]
          have HInv := Lib.hid inv
          clear inv
          refine wpAnyG_one (i := 5) (by kernel_rfl) rfl rfl fun K hK => ?_
          go_simp
          refine (HOn2.out _ (pt HQw.out HB9.out) (HIl.out _ HB9.out)).mono ?_
          rintro e w3 ⟨A5, c5, rfl, hq5, hc5, hb⟩
          have HBx5 := Lib.hid (show Below wr.heap.size wr w3 from pt HB9.out hb)
          rw [HLe2.out]
          have HQ5 := Lib.hid hq5
          clear hq5 hc5
          refine hK.out _ _ (fun _ => HSS.out _ HBx5.out) ?_
          clear hK K hb
          replace HInv := Lib.hid (inv_oneE (i := 5) HInv.out (by kernel_rfl) (by decide))
          refine wpAnyG_one (i := 7) (by kernel_rfl) rfl rfl fun K hK => ?_
          go_simp
          refine (HCp2.out _ A5 c5 (pt HQw.out HBx5.out) HQ5.out).mono ?_
          rintro e w4 ⟨hb, hopt⟩
          have HBx7 := Lib.hid (show Below wr.heap.size wr w4 from pt HBx5.out hb)
          rcases hopt with ⟨hT, rfl⟩ | ⟨l, kk, b5, o5, c6, hT, rfl, _, _, _⟩
          · rw [hT] at HCl2
            have HPx := Lib.hid (show pb = true from HCl2.out)
            clear hT
            refine hK.out _ _ (fun _ => HSS.out _ HBx7.out) ?_
            clear hK K hb
            replace HInv := Lib.hid (inv_oneE (i := 7) HInv.out (by kernel_rfl) (by decide))
            have inv := HInv.out
            clear HInv
            replace HSd := Lib.hid (HSS.out _ HBx7.out)
            refine wpAnyG_take (i := 8) (v := ?_) rfl (by kernel_rfl) (by kernel_rfl) (by kernel_rfl) (by kernel_rfl) (by kernel_rfl) (by decide) (by decide) inv (fun _ _ _ h => h) (Or.inl ⟨by rfl, ?_⟩) HSd.out ?_; rotate_left; (focus (intro W y1; obtain ⟨y1, y2, y3, y4, y5⟩ := y1; go_simp; (first | done | with_reducible rfl))); clear inv; intro inv; simp only [List.getElem_toArray, List.getElem_cons_zero, List.getElem_cons_succ, Act.put, List.setIfInBounds_toArray, List.set_cons_zero, List.set_cons_succ]
            refine wpAnyG_take (i := 9) (v := ?_) rfl (by kernel_rfl) (by kernel_rfl) (by kernel_rfl) (by kernel_rfl) (by kernel_rfl) (by decide) (by decide) inv (fun _ _ _ h => h) (Or.inl ⟨by rfl, ?_⟩) HSd.out ?_; rotate_left; (focus (intro W y1; obtain ⟨y1, y2, y3, y4, y5⟩ := y1; go_simp; (first | done | with_reducible rfl))); clear inv; intro inv; simp only [List.getElem_toArray, List.getElem_cons_zero, List.getElem_cons_succ, Act.put, List.setIfInBounds_toArray, List.set_cons_zero, List.set_cons_succ]
            refine wpAnyG_take (i := 10) (v := ?_) rfl (by kernel_rfl) (by kernel_rfl) (by kernel_rfl) (by kernel_rfl) (by kernel_rfl) (by decide) (by decide) inv (fun _ _ _ h => h) (Or.inl ⟨by rfl, ?_⟩) HSd.out ?_; rotate_left; (focus (intro W y1; obtain ⟨y1, y2, y3, y4, y5⟩ := y1; go_simp; (first | done | with_reducible rfl))); clear inv; intro inv; simp only [List.getElem_toArray, List.getElem_cons_zero, List.getElem_cons_succ, Act.put, List.setIfInBounds_toArray, List.set_cons_zero, List.set_cons_succ]
            refine wpAnyG_take (i := 11) (v := ?_) rfl (by kernel_rfl) (by kernel_rfl) (by kernel_rfl) (by kernel_rfl) (by kernel_rfl) (by decide) (by decide) inv (fun _ _ _ h => h) (Or.inl ⟨by rfl, ?_⟩) HSd.out ?_; rotate_left; (focus (intro W y1; obtain ⟨y1, y2, y3, y4, y5⟩ := y1; go_simp; (first | done | with_reducible rfl))); clear inv; intro inv; simp only [List.getElem_toArray, List.getElem_cons_zero, List.getElem_cons_succ, Act.put, List.setIfInBounds_toArray, List.set_cons_zero, List.set_cons_succ]
            refine wpAnyG_take (i := 12) (v := ?_) rfl (by kernel_rfl) (by kernel_rfl) (by kernel_rfl) (by kernel_rfl) (by kernel_rfl) (by decide) (by decide) inv (fun _ _ _ h => h) (Or.inl ⟨by rfl, ?_⟩) HSd.out ?_; rotate_left; (focus (intro W y1; obtain ⟨y1, y2, y3, y4, y5⟩ := y1; go_simp; (first | done | with_reducible rfl))); clear inv; intro inv; simp only [List.getElem_toArray, List.getElem_cons_zero, List.getElem_cons_succ, Act.put, List.setIfInBounds_toArray, List.set_cons_zero, List.set_cons_succ]
            refine wpAnyG_take (i := 13) (v := ?_) rfl (by kernel_rfl) (by kernel_rfl) (by kernel_rfl) (by kernel_rfl) (by kernel_rfl) (by decide) (by decide) inv (fun _ _ _ h => h) (Or.inl ⟨by rfl, ?_⟩) HSd.out ?_; rotate_left; (focus (intro W y1; obtain ⟨y1, y2, y3, y4, y5⟩ := y1; go_simp; (first | done | with_reducible rfl))); clear inv; intro inv; simp only [List.getElem_toArray, List.getElem_cons_zero, List.getElem_cons_succ, Act.put, List.setIfInBounds_toArray, List.set_cons_zero, List.set_cons_succ]
            have HInv := Lib.hid inv
            clear inv
            refine wpAnyG_one (i := 14) (by kernel_rfl) rfl rfl fun K hK => ?_
            go_simp
            refine hK.out _ _ (fun h => absurd h (by decide)) ?_
            clear hK K
            refine wpAnyG_done (by kernel_rfl) ?_
            clear HSS HSd HB9 HQ5
            have HI5 := Lib.hid (HIl.out w4 HBx7.out)
            have x0 := HC4.out w4 HBx7.out
            have xl : b < w4.heap.size := Nat.lt_of_lt_of_le hbw HBx7.out.size
            have hpx2 := HPx.out
            subst hpx2
            rw [if_pos rfl] at HFi
            have HEn := Lib.hid (HEnd.out xs HFi.out)
            go_wp2
            refine bodyPost_ret (v := .tuple #[.slice (some ⟨xb, xo, none⟩) (k + 1) c4, .bool true]) (by simp [results, Tryz.results16, go_sem]) rfl ?_
            exact ⟨pt HQw.out HBx7.out, .inr ⟨xs, xb, xo, c4, HEn.out, by rw [HLl.out], by rw [HLl.out]; exact hcapL.out, HI5.out⟩⟩
          · rw [hT] at HCl2
            have HPx := Lib.hid (show pb = false from HCl2.out)
            clear hT
            refine hK.out _ _ (fun _ => HSS.out _ HBx7.out) ?_
            clear hK K hb
            replace HInv := Lib.hid (inv_oneE (i := 7) HInv.out (by kernel_rfl) (by decide))
            have inv := HInv.out
            clear HInv
            replace HSd := Lib.hid (HSS.out _ HBx7.out)
            refine wpAnyG_take (i := 8) (v := ?_) rfl (by kernel_rfl) (by kernel_rfl) (by kernel_rfl) (by kernel_rfl) (by kernel_rfl) (by decide) (by decide) inv (fun _ _ _ h => h) (Or.inl ⟨by rfl, ?_⟩) HSd.out ?_; rotate_left; (focus (intro W y1; obtain ⟨y1, y2, y3, y4, y5⟩ := y1; go_simp; (first | done | with_reducible rfl))); clear inv; intro inv; simp only [List.getElem_toArray, List.getElem_cons_zero, List.getElem_cons_succ, Act.put, List.setIfInBounds_toArray, List.set_cons_zero, List.set_cons_succ]
            refine wpAnyG_take (i := 9) (v := ?_) rfl (by kernel_rfl) (by kernel_rfl) (by kernel_rfl) (by kernel_rfl) (by kernel_rfl) (by decide) (by decide) inv (fun _ _ _ h => h) (Or.inl ⟨by rfl, ?_⟩) HSd.out ?_; rotate_left; (focus (intro W y1; obtain ⟨y1, y2, y3, y4, y5⟩ := y1; go_simp; (first | done | with_reducible rfl))); clear inv; intro inv; simp only [List.getElem_toArray, List.getElem_cons_zero, List.getElem_cons_succ, Act.put, List.setIfInBounds_toArray, List.set_cons_zero, List.set_cons_succ]
            refine wpAnyG_take (i := 10) (v := ?_) rfl (by kernel_rfl) (by kernel_rfl) (by kernel_rfl) (by kernel_rfl) (by kernel_rfl) (by decide) (by decide) inv (fun _ _ _ h => h) (Or.inl ⟨by rfl, ?_⟩) HSd.out ?_; rotate_left; (focus (intro W y1; obtain ⟨y1, y2, y3, y4, y5⟩ := y1; go_simp; (first | done | with_reducible rfl))); clear inv; intro inv; simp only [List.getElem_toArray, List.getElem_cons_zero, List.getElem_cons_succ, Act.put, List.setIfInBounds_toArray, List.set_cons_zero, List.set_cons_succ]
            refine wpAnyG_take (i := 11) (v := ?_) rfl (by kernel_rfl) (by kernel_rfl) (by kernel_rfl) (by kernel_rfl) (by kernel_rfl) (by decide) (by decide) inv (fun _ _ _ h => h) (Or.inl ⟨by rfl, ?_⟩) HSd.out ?_; rotate_left; (focus (intro W y1; obtain ⟨y1, y2, y3, y4, y5⟩ := y1; go_simp; (first | done | with_reducible rfl))); clear inv; intro inv; simp only [List.getElem_toArray, List.getElem_cons_zero, List.getElem_cons_succ, Act.put, List.setIfInBounds_toArray, List.set_cons_zero, List.set_cons_succ]
            refine wpAnyG_take (i := 12) (v := ?_) rfl (by kernel_rfl) (by kernel_rfl) (by kernel_rfl) (by kernel_rfl) (by kernel_rfl) (by decide) (by decide) inv (fun _ _ _ h => h) (Or.inl ⟨by rfl, ?_⟩) HSd.out ?_; rotate_left; (focus (intro W y1; obtain ⟨y1, y2, y3, y4, y5⟩ := y1; go_simp; (first | done | with_reducible rfl))); clear inv; intro inv; simp only [List.getElem_toArray, List.getElem_cons_zero, List.getElem_cons_succ, Act.put, List.setIfInBounds_toArray, List.set_cons_zero, List.set_cons_succ]
            refine wpAnyG_take (i := 13) (v := ?_) rfl (by kernel_rfl) (by kernel_rfl) (by kernel_rfl) (by kernel_rfl) (by kernel_rfl) (by decide) (by decide) inv (fun _ _ _ h => h) (Or.inl ⟨by rfl, ?_⟩) HSd.out ?_; rotate_left; (focus (intro W y1; obtain ⟨y1, y2, y3, y4, y5⟩ := y1; go_simp; (first | done | with_reducible rfl))); clear inv; intro inv; simp only [List.getElem_toArray, List.getElem_cons_zero, List.getElem_cons_succ, Act.put, List.setIfInBounds_toArray, List.set_cons_zero, List.set_cons_succ]
            have HInv := Lib.hid inv
            clear inv
            refine wpAnyG_one (i := 14) (by kernel_rfl) rfl rfl fun K hK => ?_
            go_simp
            refine hK.out _ _ (fun h => absurd h (by decide)) ?_
            clear hK K
            refine wpAnyG_done (by kernel_rfl) ?_
            clear HSS HSd HB9 HQ5
            have hpx2 := HPx.out
            subst hpx2
            rw [if_neg (by decide)] at HFi
            go_wp2
            go_roundw
            case rel => exact ⟨j + 1, by go_num, by omega, HFi.out, pt HQ2.out HBx7.out⟩
            case measure => simp [intOf]; omega
        · have hje : j = LL.length := by omega
          subst hje
          rw [List.drop_length] at hfi
          have HN2 := Lib.hid (show firstS P rn (k + 1) = none from HNx.out.trans hfi)
          clear hfi
          go_wp2
          go_roundw
          case rel => exact ⟨k + 1, by go_num, by omega, HN2.out, HQw.out, pt HQ01.out HQ2.out⟩
          case measure => simp [intOf]; omega
    · have hke : k = rn := by omega
      subst hke
      have HE := Lib.hid (HT.out.trans HNo.out)
      have hx : ¬ (k : Int) + 1 ≤ (k : Int) := by omega
      go_wp2
      refine bodyPost_ret (v := .tuple #[.slice none 0 0, .bool false]) (by simp [results, Tryz.results16, go_sem]) rfl ?_
      exact ⟨HQ.out, .inl ⟨HE.out, rfl⟩⟩

end Go.Proofs.YtncbigkkmgnkmaaGreatDoor
end

section
namespace Go.Proofs.YtncbigkkmgnkmaaGreatDoor
open Go.RowKit Go.Shelf
attribute [local go_sem] Oper.semAt_some undef

set_option maxRecDepth 100000 in
set_option maxHeartbeats 8000000 in
theorem isPossible_in (k : Nat) (B : Nat) (rs : List DReq) (RA : Option Addr) (rn rc : Nat) (sl : List (List DPart)) (SA : Option Addr) (n c : Nat) (idle price : Int) (set : List Int) (CA : Option Addr) (m cc : Nat) (w : World) (hrr : ReqsIn B w RA rs) (hr : SlotsIn B w SA sl) (hc : IntsIn B w CA set) (hB : B ≤ w.heap.size) (hrn : rs.length = rn) (hn : sl.length = n) (hm : set.length = m) (hm2 : m ≤ 1000) (hs : SlotsOk sl) (hrs : ∀ r ∈ rs, ReqOk r) (hb : ∀ j, j < m → 0 ≤ set.getD j 0 ∧ set.getD j 0 < (rn : Int)) (h1 : 1 ≤ k) :
    CallsIn Fence.wide k Tryz.prog 53 #[.agg #[.slice SA n c, .int .i64 idle, .int .i64 price, .slice RA rn rc], .slice CA m cc] w fun e w' => e = .returned (.bool (!clashB rs sl (allC (slotN sl)) set)) ∧ Below w.heap.size w w' := by
  obtain ⟨s0, hs0, hsz, hss, hsb⟩ := info_partsC req_infoC
  have HSeq := Lib.hid (fun w0 (hW : Below w.heap.size w w0) => choices_seq (k - 1) B sl SA n c idle price w0 (hr.below (hW.mono hB)) (Nat.le_trans hB hW.size) hn hs)
  have HPl := Lib.hid ((pick_len rs set).trans hm)
  have HPo := Lib.hid (pickR_ok (rs := rs) (set := set) hrs (by rw [hm, hrn]; exact hb))
  have HR := Lib.hid hrr
  have HSl := Lib.hid hr
  have HC := Lib.hid hc
  have HS2 := Lib.hid hb
  have HN := Lib.hid hrn
  have HNs := Lib.hid hn
  have HM := Lib.hid hm
  have HSo := Lib.hid hs
  have HCl := Lib.hid (clash_iff (rs := rs) (sl := sl) (cs := allC (slotN sl)) (set := set))
  clear hrr hr hc hb hrn hn hm hs hrs
  refine callsIn_of_wp_marks Tryz.func53 rfl trivial ?_ rfl
  simp only [undef, Tryz.ntmps53, List.size_toArray, List.length_cons, List.length_nil, Nat.reduceAdd, Nat.reduceSub, Array.replicate_succ, Array.replicate_zero, List.push_toArray, List.append_toArray, List.nil_append, List.cons_append]
  gi_wp2
  gi_loopw [14] (fun ix wr => ∃ (i : Nat) (A' : Option Addr) (c' : Nat) (us : List Value), ix = .int .i64 (i : Int) ∧ i ≤ m ∧ Blk wr w.heap.size 94 #[.slice SA n c, .int .i64 idle, .int .i64 price, .slice RA rn rc] ∧ Blk wr (w.heap.size + 1) 4 #[.bool false] ∧ Blk wr (w.heap.size + 1 + 1) 94 #[.slice SA n c, .int .i64 idle, .int .i64 price, .slice A' i c'] ∧ wr.ownsRow w.heap.size 87 4 (.slice A' i c') i us ∧ OldRow B wr us (pickR rs (set.take i)) ∧ Below w.heap.size w wr) (fun ix _ => m - (intOf ix).toNat)
  case atStart => exact ⟨0, none, 0, [], rfl, Nat.zero_le _, ((Blk.newAt rfl).alloc).alloc, (Blk.newAt (by simp)).alloc, Blk.newAt (by simp), World.ownsRow_nil _ _ _ _, OldRow.nil, pa (pa (pa pr))⟩
  case round =>
    obtain ⟨i, A', c', us, rfl, hi, k0, k1, k2, hown, hrow, hq⟩ := hrel
    by_cases hlt : i < m
    · obtain ⟨b2, o2, rfl, hb2, hc2⟩ := HC.out.at_ (k := i) (by rw [HM.out]; exact hlt)
      have e2 := hc2 i (by rw [HM.out]; exact hlt)
      have hyb := HS2.out i hlt
      have HStep := Lib.hid (pick_snoc (rs := rs) (set := set) (i := i) (by rw [HM.out]; exact hlt))
      generalize set.getD i 0 = y at *
      obtain ⟨yn, rfl⟩ : ∃ yn : Nat, y = (yn : Int) := ⟨y.toNat, by omega⟩
      rw [Int.toNat_natCast] at HStep
      have hyl : yn < rs.length := by rw [HN.out]; omega
      obtain ⟨b, off, rfl, hbB, hct⟩ := HR.out.at_ hyl
      obtain ⟨A3, c3, t0, t1, t2, t3, tps, tc⟩ := hct yn hyl
      have HPs := Lib.hid tps
      have n0 : (0 : Int) ≤ (i : Int) := by omega
      have n1 : (i : Int) < (m : Int) := by omega
      have y0 : (0 : Int) ≤ (yn : Int) := by omega
      have y1 : (yn : Int) < (rn : Int) := hyb.2
      generalize rs.getD yn default = r at *
      have HCs := Lib.hid (fun W (hW : Below w.heap.size w W) => (show W.cell? ⟨b2, o2 + i, none⟩ = some (.int .i64 (yn : Int)) ∧ W.cell? ⟨b, off + yn * 4, none⟩ = some (.slice A3 r.ts.length c3) ∧ W.cell? ⟨b, off + yn * 4 + 1, none⟩ = some (.bool r.ge) ∧ W.cell? ⟨b, off + yn * 4 + 2, none⟩ = some (.int .i64 r.lim) ∧ W.cell? ⟨b, off + yn * 4 + 3, none⟩ = some (.int .i64 r.unit) from
        ⟨((bcell hW).1 _ _ (by omega)).trans e2, ((bcell hW).1 _ _ (by omega)).trans t0, ((bcell hW).1 _ _ (by omega)).trans t1, ((bcell hW).1 _ _ (by omega)).trans t2, ((bcell hW).1 _ _ (by omega)).trans t3⟩))
      have HOwn := Lib.hid hown
      have HRow := Lib.hid hrow
      have HQ := Lib.hid hq
      have K0 := Lib.hid k0
      have K1 := Lib.hid k1
      have K2 := Lib.hid k2
      have hqs := hq.size
      have hbw : b < wr.heap.size := by omega
      have hb2w : b2 < wr.heap.size := by omega
      have e9 := (HCs.out wr HQ.out).1
      clear hown hrow hq k0 k1 k2 hct hc2 e2 t0 t1 t2 t3 tps hyb
      gi_wp2
      clear e9
      refine wpIn_wide.2 ?_
      have HSS := Lib.hid (fun W (hW : Below w.heap.size w W) (h0 : Blk W w.heap.size 94 #[.slice SA n c, .int .i64 idle, .int .i64 price, .slice (some ⟨b, off, none⟩) rn rc]) (h2 : Blk W (w.heap.size + 1 + 1) 94 #[.slice SA n c, .int .i64 idle, .int .i64 price, .slice A' i c']) => (show W.cell? ⟨w.heap.size, 3, none⟩ = some (.slice (some ⟨b, off, none⟩) rn rc) ∧ W.cell? ⟨w.heap.size + 1 + 1, 3, none⟩ = some (.slice A' i c') ∧ W.cell? ⟨b, off + yn * 4, none⟩ = some (.slice A3 r.ts.length c3) ∧ W.cell? ⟨b, off + yn * 4 + 1, none⟩ = some (.bool r.ge) ∧ W.cell? ⟨b, off + yn * 4 + 2, none⟩ = some (.int .i64 r.lim) ∧ W.cell? ⟨b, off + yn * 4 + 3, none⟩ = some (.int .i64 r.unit) from ⟨h0.cellAt 3 rfl, h2.cellAt 3 rfl, (HCs.out W hW).2.1, (HCs.out W hW).2.2.1, (HCs.out W hW).2.2.2.1, (HCs.out W hW).2.2.2.2⟩))
      refine wp_calm ?_
      refine wp_region_G 10 follows_mixed (fun W => W.cell? ⟨w.heap.size, 3, none⟩ = some (.slice (some ⟨b, off, none⟩) rn rc) ∧ W.cell? ⟨w.heap.size + 1 + 1, 3, none⟩ = some (.slice A' i c') ∧ W.cell? ⟨b, off + yn * 4, none⟩ = some (.slice A3 r.ts.length c3) ∧ W.cell? ⟨b, off + yn * 4 + 1, none⟩ = some (.bool r.ge) ∧ W.cell? ⟨b, off + yn * 4 + 2, none⟩ = some (.int .i64 r.lim) ∧ W.cell? ⟨b, off + yn * 4 + 3, none⟩ = some (.int .i64 r.unit)) (HSS.out _ (pd HQ.out) K0.out.drew K2.out.drew) ?_
      intro hSd inv
      have HSd := Lib.hid hSd
      clear hSd
      refine wpAnyG_take (i := 0) (v := ?_) rfl (by kernel_rfl) (by kernel_rfl) (by kernel_rfl) (by kernel_rfl) (by kernel_rfl) (by decide) (by decide) inv (fun _ _ _ h => h) (Or.inl ⟨by rfl, ?_⟩) HSd.out ?_; rotate_left; (focus (intro W y1; obtain ⟨y1, y2, y3, y4, y5, y6⟩ := y1; go_simp; (first | done | with_reducible rfl))); clear inv; intro inv; simp only [List.getElem_toArray, List.getElem_cons_zero, Act.put, List.setIfInBounds_toArray, List.set_cons_zero, List.set_cons_succ]
      refine wpAnyG_take (i := 1) (v := ?_) rfl (by kernel_rfl) (by kernel_rfl) (by kernel_rfl) (by kernel_rfl) (by kernel_rfl) (by decide) (by decide) inv (fun _ _ _ h => h) (Or.inl ⟨by rfl, ?_⟩) HSd.out ?_; rotate_left; (focus (intro W y1; obtain ⟨y1, y2, y3, y4, y5, y6⟩ := y1; go_simp; (first | done | with_reducible rfl))); clear inv; intro inv; simp only [List.getElem_toArray, List.getElem_cons_zero, List.getElem_cons_succ, Act.put, List.setIfInBounds_toArray, List.set_cons_zero, List.set_cons_succ]
      refine wpAnyG_take (i := 2) (v := ?_) rfl (by kernel_rfl) (by kernel_rfl) (by kernel_rfl) (by kernel_rfl) (by kernel_rfl) (by decide) (by decide) inv (fun _ _ _ h => h) (Or.inl ⟨by rfl, ?_⟩) HSd.out ?_; rotate_left; (focus (intro W y1; obtain ⟨y1, y2, y3, y4, y5, y6⟩ := y1; go_simp; (first | done | with_reducible rfl))); clear inv; intro inv; simp only [List.getElem_toArray, List.getElem_cons_zero, List.getElem_cons_succ, Act.put, List.setIfInBounds_toArray, List.set_cons_zero, List.set_cons_succ]
      refine wpAnyG_take (i := 3) (v := ?_) rfl (by kernel_rfl) (by kernel_rfl) (by kernel_rfl) (by kernel_rfl) (by kernel_rfl) (by decide) (by decide) inv (fun _ _ _ h => h) (Or.inl ⟨by rfl, ?_⟩) HSd.out ?_; rotate_left; (focus (intro W y1; obtain ⟨y1, y2, y3, y4, y5, y6⟩ := y1; go_simp; (first | done | with_reducible rfl))); clear inv; intro inv; simp only [List.getElem_toArray, List.getElem_cons_zero, List.getElem_cons_succ, Act.put, List.setIfInBounds_toArray, List.set_cons_zero, List.set_cons_succ]
      refine wpAnyG_take (i := 4) (v := ?_) rfl (by kernel_rfl) (by kernel_rfl) (by kernel_rfl) (by kernel_rfl) (by kernel_rfl) (by decide) (by decide) inv (fun _ _ _ h => h) (Or.inl ⟨by rfl, ?_⟩) HSd.out ?_; rotate_left; (focus (intro W y1; obtain ⟨y1, y2, y3, y4, y5, y6⟩ := y1; go_simp; (first | done | with_reducible rfl))); clear inv; intro inv; simp only [List.getElem_toArray, List.getElem_cons_zero, List.getElem_cons_succ, Act.put, List.setIfInBounds_toArray, List.set_cons_zero, List.set_cons_succ]
      refine wpAnyG_take (i := 5) (v := ?_) rfl (by kernel_rfl) (by kernel_rfl) (by kernel_rfl) (by kernel_rfl) (by kernel_rfl) (by decide) (by decide) inv (fun _ _ _ h => h) (Or.inl ⟨by rfl, ?_⟩) HSd.out ?_; rotate_left; (focus (intro W y1; obtain ⟨y1, y2, y3, y4, y5, y6⟩ := y1; go_simp; (first | done | with_reducible rfl))); clear inv; intro inv; simp only [List.getElem_toArray, List.getElem_cons_zero, List.getElem_cons_succ, Act.put, List.setIfInBounds_toArray, List.set_cons_zero, List.set_cons_succ]
      refine wpAnyG_take (i := 6) (v := ?_) rfl (by kernel_rfl) (by kernel_rfl) (by kernel_rfl) (by kernel_rfl) (by kernel_rfl) (by decide) (by decide) inv (fun _ _ _ h => h) (Or.inl ⟨by rfl, ?_⟩) HSd.out ?_; rotate_left; (focus (intro W y1; obtain ⟨y1, y2, y3, y4, y5, y6⟩ := y1; go_simp; (first | done | with_reducible rfl))); clear inv; intro inv; simp only [List.getElem_toArray, List.getElem_cons_zero, List.getElem_cons_succ, Act.put, List.setIfInBounds_toArray, List.set_cons_zero, List.set_cons_succ]
      clear inv
      refine wpAnyG_one (i := 7) (by kernel_rfl) rfl rfl fun K hK => ?_
      go_simp
      have hBr : Below wr.heap.size wr ((wr.alloc (.cells #[.slice A3 r.ts.length c3, .bool r.ge, .int .i64 r.lim, .int .i64 r.unit] 87)).drew) := pd (pa pr)
      have HB2 := Lib.hid (pt HQ.out hBr)
      have K0a := Lib.hid (K0.out.past hBr)
      have K1a := Lib.hid (K1.out.past hBr)
      have K2a := Lib.hid (K2.out.past hBr)
      have HOa := Lib.hid (own_past hBr HOwn.out)
      have HC1 := Lib.hid (show CellsIn (wr.heap.size + 1) ((wr.alloc (.cells #[.slice A3 r.ts.length c3, .bool r.ge, .int .i64 r.lim, .int .i64 r.unit] 87)).drew) (some ⟨wr.heap.size, 0, none⟩) [.slice A3 r.ts.length c3, .bool r.ge, .int .i64 r.lim, .int .i64 r.unit] from cells_new wr 87 #[.slice A3 r.ts.length c3, .bool r.ge, .int .i64 r.lim, .int .i64 r.unit])
      have hsx : ((wr.alloc (.cells #[.slice A3 r.ts.length c3, .bool r.ge, .int .i64 r.lim, .int .i64 r.unit] 87)).drew).heap.size = wr.heap.size + 1 := by simp [World.drew]
      generalize (wr.alloc (.cells #[.slice A3 r.ts.length c3, .bool r.ge, .int .i64 r.lim, .int .i64 r.unit] 87)).drew = wx at *
      refine hK.out _ _ (fun _ => HSS.out _ HB2.out K0a.out K2a.out) ?_
      clear hK K
      refine wpAnyG_one (i := 8) (by kernel_rfl) rfl rfl fun K hK => ?_
      refine wp_append_cells _ (.tmp 19) (.tmp 25) _ (by rfl) w.heap.size 87 s0 _ 4 48 Tryz.underlying22 hs0 hsz hss hsb (by rfl) (by omega) (.slice A' i c') i us (by rfl) HOa.out (wr.heap.size + 1) (some ⟨wr.heap.size, 0, none⟩) 1 1 [.slice A3 r.ts.length c3, .bool r.ge, .int .i64 r.lim, .int .i64 r.unit] (by rfl) HC1.out rfl (by simp [Value.oneCell']) (by simp only [maxLen]; omega) (by omega) (by omega) ?_
      intro v4 w4 hown4 hg4 _
      obtain ⟨A4, c4, rfl, hc4, _⟩ := own_form hown4
      have HB4 := Lib.hid (pg HB2.out HOa.out (Nat.le_refl _) hg4)
      have K04 := Lib.hid (K0a.out.grown hg4 (own_ne HOa.out K0a.out (by decide)))
      have K14 := Lib.hid (K1a.out.grown hg4 (own_ne HOa.out K1a.out (by decide)))
      have K24 := Lib.hid (K2a.out.grown hg4 (own_ne HOa.out K2a.out (by decide)))
      have HRow4 := Lib.hid ((HRow.out.below (hBr.mono (by omega))).snoc (r := r) (HPs.out.below (HB2.out.mono hB)) tc)
      have HRow5 := Lib.hid (HRow4.out.below (w := wx) (w' := w4) ((show Below w.heap.size wx w4 from ⟨hg4.os, hg4.tape, hg4.output, hg4.size, fun k hk => hg4.block k (by have := HB2.out.size; omega) (fun e => by have := (HOa.out.lt k e.symm).1; omega)⟩).mono hB))
      have HO4 := Lib.hid hown4
      clear hown4 hg4 HOa K0a K1a K2a HRow4 hBr HB2 HRow HOwn K0 K1 K2 HC1
      refine hK.out _ _ (fun _ => HSS.out _ HB4.out K04.out K24.out) ?_
      clear hK K
      refine wpAnyG_one (i := 9) (by kernel_rfl) rfl rfl fun K hK => ?_
      go_simp
      refine hK.out _ _ (fun _ => HSS.out _ HB4.out K04.out K24.out) ?_
      clear hK K
      refine wpAnyG_one (i := 10) (by kernel_rfl) rfl rfl fun K hK => ?_
      have q1 : w4.cell? ⟨w.heap.size + 1 + 1, 3, none⟩ = some (.slice A' i c') := K24.out.cellAt 3 rfl
      have q2 := K24.out.frozen 3
      have q3 := K24.out.lt
      go_simp
      refine hK.out _ _ (fun h => absurd h (by decide)) ?_
      clear hK K
      refine wpAnyG_doneC (by kernel_rfl) ?_
      clear HSS HSd
      have HK0 := Lib.hid (K04.out.far (p := ⟨w.heap.size + 1 + 1, 3, none⟩) (u := .slice A4 (i + 1) c4) (by dsimp only; omega))
      have HK1 := Lib.hid (K14.out.far (p := ⟨w.heap.size + 1 + 1, 3, none⟩) (u := .slice A4 (i + 1) c4) (by dsimp only; omega))
      have HK2 := Lib.hid (K24.out.set_ 3 (.slice A4 (i + 1) c4))
      have HOw := Lib.hid (own_cellT HO4.out K24.out (by decide) (q := ⟨w.heap.size + 1 + 1, 3, none⟩) rfl (.slice A4 (i + 1) c4))
      have HRw := Lib.hid (HRow5.out.below ((show Below w.heap.size w4 (w4.setCell ⟨w.heap.size + 1 + 1, 3, none⟩ (.slice A4 (i + 1) c4)) from (Below.refl w.heap.size w4).setCell (by show w.heap.size ≤ w.heap.size + 1 + 1; omega) _).mono hB))
      have HBw := Lib.hid (ps HB4.out (p := ⟨w.heap.size + 1 + 1, 3, none⟩) (u := .slice A4 (i + 1) c4) (by dsimp only; omega))
      clear q1 q2 q3 K04 K14 K24 HO4 HRow5 HB4
      gi_wp2
      go_roundw
      case rel => exact ⟨i + 1, A4, c4, _, by go_num, by omega, HK0.out, HK1.out, HK2.out, HOw.out, by rw [HStep.out]; exact HRw.out, HBw.out⟩
      case measure => simp [intOf]; omega
    · obtain rfl : i = m := by omega
      rw [List.take_of_length_le (by rw [HM.out]; exact Nat.le_refl _)] at hrow
      have HRq := Lib.hid (hrow.reqs (Nat.le_trans hB hq.size) hown)
      have K1 := Lib.hid k1
      have K2 := Lib.hid k2
      have HQ := Lib.hid hq
      have g0 := k2.cellAt 0 rfl
      have g1 := k2.cellAt 1 rfl
      have g2 := k2.cellAt 2 rfl
      have x1 := k2.lt
      clear hown hrow k0 k1 k2 hq
      gi_wp2
      clear g0 g1 g2
      generalize wr = w0 at *
      have hlt1 := K1.out.lt
      have hlt2 := K2.out.lt
      have hn5 : n ≤ 5 := by rw [← HNs.out]; exact HSo.out.1.2
      refine rangeFunc_lawG h1 (gf := 48) (fb := #[.agg #[.slice SA n c, .int .i64 idle, .int .i64 price]]) (lb := #[]) rfl (enters_of Tryz.func48 (by kernel_rfl) rfl)
        (HSeq.out w0 HQ.out) (Below.refl _ _)
        (fun h q => h.trans q) (fun G W A l o o' hG hl hl2 ho hc => KeepG.put o' (fun q hq => by have : q < B := hq; have := HQ.out.size; omega) (fun q hq => by have := hG q hq; omega))
        (fun G x A l o o' ho hc hp => hp.put o' ho hc) (fun x => rfl)
        (fun G (pre : List RowI) W => (∀ x ∈ pre.map (·.2), meetsV (pickR rs set) sl x ≠ 2) ∧ Below w0.heap.size w0 W)
        (fun G c pre W => c = .ret ∧ (∃ x ∈ pre.map (·.2), meetsV (pickR rs set) sl x = 2) ∧ Blk W (w.heap.size + 1) 4 #[.bool true] ∧ Below w.heap.size w W)
        (fun G hG s W W' row hs hg hr => ⟨hs.1, below_grown hs.2 hs.2.size hg (fun r e => by
          rcases hr r e with h2 | ⟨h2, _⟩
          · have := hG r h2; omega
          · exact h2)⟩)
        (fun G c s A B row hs hg hr => ⟨hs.1, hs.2.1, own_blk _ _ _ _ s A B row hs.2.2.1 hg hr, ownFrom_below (Nat.le_refl _) HQ.out.size s A B row hs.2.2.2 hg hr⟩)
        (fun G hG => ⟨fun x hx => by simp at hx, Below.refl _ _⟩)
        (fun x => { tmps := #[.agg #[.slice SA n c, .int .i64 idle, .int .i64 price, .slice RA rn rc], .slice CA i cc, .pointer (some ⟨w.heap.size, 0, none⟩), .tuple #[], .pointer (some ⟨w.heap.size + 1, 0, none⟩), .pointer (some ⟨w.heap.size + 1 + 1, 0, none⟩), .tuple #[], u7, .slice x.1.1 n x.1.2, .pointer (some ⟨w.heap.size, 0, none⟩), .agg #[.slice SA n c, .int .i64 idle, .int .i64 price], .pointer (some ⟨w.heap.size + 1 + 1, 0, none⟩), .slice CA i cc, .int .i64 (i : Int), .int .i64 (i : Int), .bool false, u16, u17, u18, u19, u20, u21, u22, u23, u24, u25, u26, u27, u28, .pointer (some ⟨w.heap.size + 1 + 1, 0, none⟩), .agg #[.slice SA n c, .int .i64 idle, .int .i64 price], .func (.func 48) #[.agg #[.slice SA n c, .int .i64 idle, .int .i64 price]] #[], .slice x.1.1 n x.1.2, .tuple #[], .tuple #[], .tuple #[], .tuple #[]], defers := [] })
        ?assign ?body ?done ?stop
      case assign =>
        intro l x W K hK
        unfold rowEnc
        gi_wp2
        exact hK
      case body =>
        rintro l G pre ⟨⟨X, cX⟩, xs⟩ Wb W hG hWb ⟨hno, hq⟩ ⟨⟨hx1, hx2, hx3⟩, hx4, hx5⟩ hlen
        dsimp only at hx1 hx2 hx3 hx5 ⊢
        have hch : ChoiceOk sl xs := (allC_ok (sl := sl)).1 hx5
        have HMe := Lib.hid (meets_any W.heap.size (pickR rs set) A' i c' sl SA n c idle price xs X cX W ((HRq.out.past (Nat.le_refl _) hq)) ((HSl.out.past hB (pt HQ.out hq))) hx1.ints (Nat.le_refl _) HPl.out hm2 HNs.out HSo.out hch HPo.out)
        have t0 := (K2.out.past hq).cellAt 0 rfl
        have t1 := (K2.out.past hq).cellAt 1 rfl
        have t2 := (K2.out.past hq).cellAt 2 rfl
        have t3 := (K2.out.past hq).cellAt 3 rfl
        have tl := (K2.out.past hq).lt
        have HX4 := Lib.hid hx4
        have HNo := Lib.hid hno
        have HQx := Lib.hid hq
        have hWsz := hq.size
        have hWs2 := HQ.out.size
        clear hx1 hx2 hx3 hx4 hx5 hlen hno hq hch
        generalize hmv : meetsV (pickR rs set) sl xs = mv at *
        have HMv := Lib.hid hmv
        clear hmv
        by_cases hy : mv = 2
        · have hmb : (mv == 2) = true := by simpa using hy
          have HY := Lib.hid hy
          clear hy
          gi_wp2_with (refine ⟨trivial, (fun h => nomatch h), ?_⟩; gi_at_call 50; refine (callsIn_wide.2 HMe.out).mono ?_; rintro e w2 ⟨rfl, hb2⟩; have HP2 := Lib.hid hb2; have q1 := ((K1.out.past HQx.out).past hb2).cellAt 0 rfl; have q2 := ((K1.out.past HQx.out).past hb2).frozen 0; have q3 := ((K1.out.past HQx.out).past hb2).lt; have KB := Lib.hid ((K1.out.past HQx.out).past hb2); clear hb2 t0 t1 t2 t3 tl)
          refine ⟨((keeps_below HP2.out).trans (KeepsOthers.setCell _ _ _)).from _, rfl, ⟨xs, by simp, HMv.out.trans HY.out⟩, by simpa using KB.out.set_ 0 (.bool true), ps (pt (pt HQ.out HQx.out) HP2.out) (by dsimp only; omega)⟩
        · have hmb : (mv == 2) = false := by simpa using hy
          have HY := Lib.hid hy
          clear hy
          gi_wp2_with (refine ⟨trivial, (fun h => nomatch h), ?_⟩; gi_at_call 50; refine (callsIn_wide.2 HMe.out).mono ?_; rintro e w2 ⟨rfl, hb2⟩; have HP2 := Lib.hid hb2; clear hb2 t0 t1 t2 t3 tl)
          refine ⟨(keeps_below HP2.out).from _, KeepG.of_below HP2.out (fun q hq => by have : q < B := hq; omega) HX4.out, ?_, pt HQx.out HP2.out⟩
          intro x hx
          rw [List.map_append, List.mem_append] at hx
          rcases hx with hx | hx
          · exact HNo.out x hx
          · have e : x = xs := by simpa using hx
            subst e
            exact fun h => HY.out (HMv.out.symm.trans h)
      case done =>
        rintro G D ys W hD hS ⟨hno, hq⟩ hK
        have HA := Lib.hid (show clashB rs sl (allC (slotN sl)) set = true from HCl.out.2 (by
          rw [show List.map Prod.snd ys = allC (slotN sl) from hS] at hno
          exact hno))
        have KB := Lib.hid (K1.out.past hq)
        have q1 := KB.out.cellAt 0 rfl
        have q2 := KB.out.frozen 0
        have q3 := KB.out.lt
        have HQx := Lib.hid hq
        have hWs2 := HQ.out.size
        clear hno hq hS
        gi_wp2
        refine ⟨by simp, .inl ⟨_, _, rfl, run_takeDeferred ((KeepsOthers.setCell W ⟨w.heap.size + 1, 0, none⟩ (.bool false)).same D _ hK rfl), ?_⟩⟩
        have p4 : Blk ((W.setCell ⟨w.heap.size + 1, 0, none⟩ (.bool false)).putObj D (.deferred none)) (w.heap.size + 1) 4 #[.bool false] := Blk.putObj (by simpa using KB.out.set_ 0 (.bool false)) (by omega)
        have e0 := p4.cellAt 0 rfl
        refine ⟨.bool false, by simp [results, Tryz.results53, go_sem, e0], ?_⟩
        rw [HA.out]
        exact ⟨rfl, (ps (pt HQ.out HQx.out) (by dsimp only; omega)).trans ⟨rfl, rfl, rfl, by simp, fun k hk => World.putObj_heap_other (by omega)⟩⟩
      case stop =>
        rintro G D c' pre W hD ⟨_, hpf⟩ ⟨rfl, ⟨x, hx, hx2⟩, q4, hq⟩ hK
        have HA := Lib.hid (show clashB rs sl (allC (slotN sl)) set = false from by
          cases hc : clashB rs sl (allC (slotN sl)) set with
          | false => rfl
          | true => exact absurd hx2 (HCl.out.1 hc x (hpf.subset hx)))
        have d4 := q4.cellAt 0 rfl
        have hWs2 := HQ.out.size
        clear hx hx2 hpf
        gi_wp2
        refine ⟨by simp, .inl ⟨_, _, rfl, run_takeDeferred hK, ?_⟩⟩
        have p4 : Blk (W.putObj D (.deferred none)) (w.heap.size + 1) 4 #[.bool true] := q4.putObj (by omega)
        have e0 := p4.cellAt 0 rfl
        refine ⟨.bool true, by simp [results, Tryz.results53, go_sem, e0], ?_⟩
        rw [HA.out]
        exact ⟨rfl, hq.trans ⟨rfl, rfl, rfl, by simp, fun k hk => World.putObj_heap_other (by omega)⟩⟩

theorem isPossible_any (B : Nat) (rs : List DReq) (RA : Option Addr) (rn rc : Nat) (sl : List (List DPart)) (SA : Option Addr) (n c : Nat) (idle price : Int) (set : List Int) (CA : Option Addr) (m cc : Nat) (w : World) (hrr : ReqsIn B w RA rs) (hr : SlotsIn B w SA sl) (hc : IntsIn B w CA set) (hB : B ≤ w.heap.size) (hrn : rs.length = rn) (hn : sl.length = n) (hm : set.length = m) (hm2 : m ≤ 1000) (hs : SlotsOk sl) (hrs : ∀ r ∈ rs, ReqOk r) (hb : ∀ j, j < m → 0 ≤ set.getD j 0 ∧ set.getD j 0 < (rn : Int)) :
    Calls Tryz.prog 53 #[.agg #[.slice SA n c, .int .i64 idle, .int .i64 price, .slice RA rn rc], .slice CA m cc] w fun e w' => e = .returned (.bool (!clashB rs sl (allC (slotN sl)) set)) ∧ Below w.heap.size w w' :=
  callsIn_wide.1 (isPossible_in 1 B rs RA rn rc sl SA n c idle price set CA m cc w hrr hr hc hB hrn hn hm hm2 hs hrs hb (Nat.le_refl _))

end Go.Proofs.YtncbigkkmgnkmaaGreatDoor
end
