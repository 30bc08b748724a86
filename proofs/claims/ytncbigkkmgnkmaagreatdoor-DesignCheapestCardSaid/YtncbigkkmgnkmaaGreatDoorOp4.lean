/- Contract: Cheapest (the specification). Printed by a program (gen_e1chea.py).
Rows of requirements whose terms lie in old memory. Contract: only (the specification). Printed by a program (gen_e1only.py). -/
import Derived.Test.YtncbigkkmgnkmaaGreatDoorOp3
import Derived.Test.YtncbigkkmgnkmaaGreatDoorOe1
import Derived.Test.YtncbigkkmgnkmaaGreatDoorOn6
import Derived.Test.YtncbigkkmgnkmaaGreatDoorOn2
import Derived.Test.YtncbigkkmgnkmaaGreatDoorOp2
import Derived.Test.YtncbigkkmgnkmaaGreatDoorOn3
import Derived.Test.YtncbigkkmgnkmaaGreatDoorOp1

section
namespace Go.Proofs.YtncbigkkmgnkmaaGreatDoor
open Go.RowKit

theorem chea_drop {rs : List DReq} {sl : List (List DPart)} {idle price : Int} {LL : List (List Int)} {j : Nat} (h : j < LL.length) (T : Option (List Int × Int)) : cheapF (meetB rs sl) (costC idle price sl) (LL.drop j) T = cheapF (meetB rs sl) (costC idle price sl) (LL.drop (j + 1)) (cheapS (meetB rs sl) (costC idle price sl) T (LL.getD j [])) := by
  have e : LL.drop j = LL.getD j [] :: LL.drop (j + 1) := by
    rw [List.drop_eq_getElem_cons h]
    simp [List.getD, h]
  rw [e]
  rfl
theorem run_neq_nil {P : Program} (w : World) (t e : TypeId) (a : Option Addr) (l c : Nat) (h : P.underlying t = some (.slice e)) : (binOp .neq t (.slice a l c) (.slice none 0 0)).run P w = .ok (.bool (!a.isNone)) w := by
  simp only [binOp]
  simp [Op.equal, Op.maxDepth, Lib.run_equalIn_slice_nil w 9999 t e a l c 0 0 h]
/-- The cheapest design, its cost and whether there is one. -/
def OptRet (w : World) (n : Nat) (T : Option (List Int × Int)) (e : Ending) (w' : World) : Prop :=
  Below w.heap.size w w' ∧ ((T = none ∧ e = .returned (.tuple #[.slice none 0 0, .int .i64 0, .bool false])) ∨ ∃ l k b o c, T = some (l, k) ∧ e = .returned (.tuple #[.slice (some ⟨b, o, none⟩) n c, .int .i64 k, .bool true]) ∧ l.length = n ∧ n ≤ c ∧ IntsIn w'.heap.size w' (some ⟨b, o, none⟩) l)
def OptIs (n : Nat) (T : Option (List Int × Int)) (wr : World) (bv nv : Value) : Prop :=
  (T = none ∧ bv = .slice none 0 0 ∧ nv = .int .i64 0) ∨ ∃ l k b o c, T = some (l, k) ∧ bv = .slice (some ⟨b, o, none⟩) n c ∧ nv = .int .i64 k ∧ l.length = n ∧ n ≤ c ∧ IntsIn wr.heap.size wr (some ⟨b, o, none⟩) l
theorem OptIs.past {n : Nat} {T : Option (List Int × Int)} {wr w' : World} {bv nv : Value} (h : OptIs n T wr bv nv) (hb : Below wr.heap.size wr w') : OptIs n T w' bv nv := by
  rcases h with h | ⟨l, k, b, o, c, h1, h2, h3, h4, h5, h6⟩
  · exact .inl h
  · exact .inr ⟨l, k, b, o, c, h1, h2, h3, h4, h5, (h6.below hb).more hb.size⟩
theorem row_atC {w : World} {base n c j : Nat} {A : Option Addr} {us : List Value} {L : List (List Int)} (h : w.ownsRow base 32 1 (.slice A n c) n us) (hr : RowsOf w us L) (hl : j < L.length) :
    ∃ b off A2 c2, A = some ⟨b, off, none⟩ ∧ b < w.heap.size ∧ w.cell? ⟨b, off + j, none⟩ = some (.slice A2 (L.getD j []).length c2) ∧ (L.getD j []).length ≤ c2 ∧ IntsIn w.heap.size w A2 (L.getD j []) := by
  have hu : j < us.length := by rw [hr.1]; exact hl
  obtain ⟨A2, c2, h1, h2, h3⟩ := hr.2 j hl
  rcases cellsIn_of_own h with hx | ⟨b, off, hA, hb, hc⟩
  · rw [hx] at hu; simp at hu
  · have := hc j hu
    rw [List.getElem?_eq_getElem hu] at this
    have e : us.getD j undef = us[j] := by simp [List.getD, hu]
    rw [e] at h1
    exact ⟨b, off, A2, c2, hA, hb, this.trans (by rw [h1]), h2, h3.ints⟩

set_option maxHeartbeats 4000000 in
set_option maxRecDepth 100000 in
theorem refCheapest_any (B : Nat) (rs : List DReq) (RA : Option Addr) (rn rc : Nat) (sl : List (List DPart)) (SA : Option Addr) (n c : Nat) (idle price : Int) (w : World) (hrr : ReqsIn B w RA rs) (hr : SlotsIn B w SA sl) (hB : B ≤ w.heap.size) (hrn : rs.length = rn) (hrm : rn ≤ 1000) (hn : sl.length = n) (hs : SlotsOk sl) (hrs : ∀ r ∈ rs, ReqOk r) (h1 : 0 ≤ idle ∧ idle ≤ 1000) (h2 : 0 ≤ price ∧ price ≤ 1000) :
    Calls Tryz.prog 15 #[.agg #[.slice RA rn rc], .agg #[.slice SA n c, .int .i64 idle, .int .i64 price]] w (OptRet w n (cheaF rs idle price sl (allC (slotN sl)))) := by
  have hn5 : n ≤ 5 := by rw [← hn]; exact hs.1.2
  have hn1 : 1 ≤ n := by rw [← hn]; exact hs.1.1
  have H6 := Lib.hid (fun l hl => (hs.2 l hl).1.2)
  have HCh := Lib.hid (fun W (hW : Below w.heap.size w W) => (show Calls Tryz.prog 54 #[.agg #[.slice SA n c, .int .i64 idle, .int .i64 price], .slice none 0 0] W (RowsRet W (allC (slotN sl))) by
    have h := refChoices_any B sl SA n c idle price hn hn5 H6.out n [] none 0 0 W (hr.below (hW.mono hB)) (Nat.le_trans hB hW.size) rfl (by omega) (Nat.le_refl _) (.inl rfl)
    rw [← hn, cho_nil] at h
    rw [← hn]
    exact h))
  have HFew := Lib.hid (show (allC (slotN sl)).length ≤ 7776 by
    have h := choV_few H6.out sl.length (by omega) []
    rw [cho_nil] at h
    exact h)
  have HMem := Lib.hid (fun xs (h : xs ∈ allC (slotN sl)) => (show xs.length = n ∧ ChoiceOk sl xs from ⟨((allC_ok (sl := sl)).1 h).1.trans hn, (allC_ok (sl := sl)).1 h⟩))
  have HRM := Lib.hid (fun W xs A2 c2 (hW : Below w.heap.size w W) (hx : IntsIn W.heap.size W A2 xs) (hc : ChoiceOk sl xs) => refMeets_any W.heap.size rs RA rn rc sl SA n c idle price xs A2 c2 W ((hrr.below (hW.mono hB)).more (Nat.le_trans hB hW.size)) ((hr.below (hW.mono hB)).more (Nat.le_trans hB hW.size)) hx (Nat.le_refl _) hrn hrm hn hs hc hrs)
  have HRC := Lib.hid (fun W xs A2 c2 (hW : Below w.heap.size w W) (hx : IntsIn W.heap.size W A2 xs) (hc : ChoiceOk sl xs) => refCostOf_any W.heap.size sl SA n c idle price xs A2 c2 W ((hr.below (hW.mono hB)).more (Nat.le_trans hB hW.size)) hx (Nat.le_refl _) hn hs hc h1 h2)
  have HF := Lib.hid (show cheaF rs idle price sl (allC (slotN sl)) = cheapF (meetB rs sl) (costC idle price sl) (allC (slotN sl)) none from rfl)
  have HB0 := Lib.hid (show Below w.heap.size w ((w.alloc (.cells #[.slice RA rn rc] 24)).alloc (.cells #[.slice SA n c, .int .i64 idle, .int .i64 price] 27)) from pa (pa pr))
  have R0 := Lib.hid (show Blk ((w.alloc (.cells #[.slice RA rn rc] 24)).alloc (.cells #[.slice SA n c, .int .i64 idle, .int .i64 price] 27)) w.heap.size 24 #[.slice RA rn rc] from (Blk.newAt rfl).alloc)
  have K0 := Lib.hid (show Blk ((w.alloc (.cells #[.slice RA rn rc] 24)).alloc (.cells #[.slice SA n c, .int .i64 idle, .int .i64 price] 27)) (w.heap.size + 1) 27 #[.slice SA n c, .int .i64 idle, .int .i64 price] from Blk.newAt (by simp))
  clear hrr hr hrn hn hs hrs h1 h2 H6
  generalize cheaF rs idle price sl (allC (slotN sl)) = F at *
  generalize allC (slotN sl) = LL at *
  have hnil := fun (w : World) (A : Option Addr) (n c : Nat) => Lib.run_eql_slice_nil (P := Tryz.prog) w 32 3 A n c 0 0 Tryz.underlying32
  have hnel := fun (w : World) (A : Option Addr) (n c : Nat) => run_neq_nil (P := Tryz.prog) w 32 3 A n c Tryz.underlying32
  go_enter Tryz.func15, Tryz.ntmps15
  go_wp2_with (go_at_call 54; go_must (refine (HCh.out _ HB0.out).mono ?_); rintro e w1 ⟨Al, cl, us, rfl, hown, hrows, hb1⟩)
  have HQ1 := Lib.hid (pt HB0.out hb1)
  have R1 := Lib.hid (R0.out.past hb1)
  have K1 := Lib.hid (K0.out.past hb1)
  have HRow := Lib.hid fun j (hj : j < LL.length) => row_atC hown hrows hj
  clear hown hrows hb1 HCh R0 K0 HB0
  go_loopw [7, 8, 10] (fun bv nv jv wr => ∃ (j : Nat) (T : Option (List Int × Int)), jv = .int .i64 (j : Int) ∧ j ≤ LL.length ∧ OptIs n T wr bv nv ∧ F = cheapF (meetB rs sl) (costC idle price sl) (LL.drop j) T ∧ Below w1.heap.size w1 wr) (fun _ _ jv _ => LL.length - (intOf jv).toNat)
  case atStart => exact ⟨0, none, rfl, Nat.zero_le _, .inl ⟨rfl, rfl, rfl⟩, HF.out, pr⟩
  case round =>
    obtain ⟨j, T, rfl, hj, hopt, hT, hq⟩ := hrel
    clear HF
    have hfew := HFew.out
    have HQ2 := Lib.hid hq
    have HQw := Lib.hid (pt HQ1.out hq)
    have HOpt := Lib.hid hopt
    have x0 := (R1.out.past hq).cellAt 0 rfl
    have y0 := (K1.out.past hq).cellAt 0 rfl
    have y1 := (K1.out.past hq).cellAt 1 rfl
    have y2 := (K1.out.past hq).cellAt 2 rfl
    have xl := (R1.out.past hq).lt
    have yl := (K1.out.past hq).lt
    have RW := Lib.hid (R1.out.past hq)
    have KW := Lib.hid (K1.out.past hq)
    clear hq hopt
    by_cases hlj : j < LL.length
    · obtain ⟨b, off, A4, c4, hAl, hbl, hcl, hcap, hil⟩ := HRow.out j hlj
      have hbw : b < wr.heap.size := Nat.lt_of_lt_of_le hbl HQ2.out.size
      obtain ⟨hll, hch⟩ := HMem.out (LL.getD j []) (by simp [List.getD, hlj])
      have HStep := Lib.hid (hT.trans (chea_drop hlj T))
      rw [hll] at hcl hcap
      have e4 : wr.cell? ⟨b, off + j, none⟩ = some (.slice A4 n c4) := ((bcell HQ2.out).1 _ _ hbl).trans hcl
      have HIl := Lib.hid (fun W (hW : Below wr.heap.size wr W) => (show IntsIn W.heap.size W A4 (LL.getD j []) from (hil.below (HQ2.out.trans (hW.mono HQ2.out.size))).more (Nat.le_trans HQ2.out.size hW.size)))
      rw [cheapS_if] at HStep
      have HMt := Lib.hid (fun W (hW : Below wr.heap.size wr W) => HRM.out W (LL.getD j []) A4 c4 (pt HQw.out hW) (HIl.out W hW) hch)
      have HCt := Lib.hid (fun W (hW : Below wr.heap.size wr W) => HRC.out W (LL.getD j []) A4 c4 (pt HQw.out hW) (HIl.out W hW) hch)
      have j0 : (0 : Int) ≤ (j : Int) := by omega
      have j1 : (j : Int) < (LL.length : Int) := by omega
      obtain ⟨xb, xo, hA4, _, _⟩ := hil.at_ (k := 0) (by omega)
      subst hA4
      subst hAl
      have HLl := Lib.hid hll
      clear hll hcl hT hch hil
      generalize meetsV rs sl (LL.getD j []) = mv at *
      generalize costC idle price sl (LL.getD j []) = k at *
      generalize LL.getD j [] = xs at *
      have hcapL := Lib.hid hcap
      clear hcap
      by_cases hmv : mv = 2
      · subst hmv
        rw [show (decide ((2 : Int) = 2)) = true from rfl, Bool.true_and] at HStep
        go_wp2
        refine region_below 7 follows_mixed (by kernel_rfl) ?_
        intro C hC
        simp only [List.take_succ_cons, List.take_zero, List.drop_succ_cons, List.drop_zero]
        repeat (first
          | ((with_reducible refine quiet_plain rfl (fun K hK => ?_)); (focus (apply quiet_val; (focus (intro w' hw; obtain ⟨hcq, hfq⟩ := bcell ((hC.out _).1 hw); go_simp; (first | done | rfl | (with_reducible exact call_below hC hw (HMt.out _ ((hC.out _).1 hw)))))); (simp only [Act.put, List.setIfInBounds_toArray, List.set_cons_succ, List.set_cons_zero]); (with_reducible refine hK _ ?_); clear hK K)))
          | ((with_reducible refine quiet_skip ?_ ?_); (focus (first | (simp [Region.wanted, yielded]; done) | (simp [Region.wanted, yielded, undef]; done))); simp only [Act.put, List.setIfInBounds_toArray, List.set_cons_succ, List.set_cons_zero])
          | ((with_reducible refine quiet_go ?_ (fun K hK => ?_)); (focus (first | (simp [Region.wanted, yielded]; done) | (simp [Region.wanted, yielded, undef]; done))); (focus (apply quiet_val; (focus (intro w' hw; obtain ⟨hcq, hfq⟩ := bcell ((hC.out _).1 hw); go_simp; (first | done | rfl | (with_reducible exact call_below hC hw (HMt.out _ ((hC.out _).1 hw)))))); (simp only [Act.put, List.setIfInBounds_toArray, List.set_cons_succ, List.set_cons_zero]); (with_reducible refine hK _ ?_); clear hK K))))
        refine wpQuiet_nil ?_
        intro w1 hb1
        replace hb1 := (hC.out _).1 hb1
        clear hC C
        obtain ⟨hc1, hf1⟩ := bcell hb1
        have HA1 := Lib.hid hb1
        have x0 := (RW.out.past hb1).cellAt 0 rfl
        have y0 := (KW.out.past hb1).cellAt 0 rfl
        have y1 := (KW.out.past hb1).cellAt 1 rfl
        have y2 := (KW.out.past hb1).cellAt 2 rfl
        have xl := (RW.out.past hb1).lt
        have yl := (KW.out.past hb1).lt
        have e5 : w1.cell? ⟨b, off + j, none⟩ = some (.slice (some ⟨xb, xo, none⟩) n c4) := ((bcell hb1).1 _ _ hbw).trans e4
        have hbw1 : b < w1.heap.size := Nat.lt_of_lt_of_le hbw hb1.size
        clear hb1 hc1 hf1
        go_wp2
        refine region_below 6 follows_mixed (by kernel_rfl) ?_
        intro C hC
        simp only [List.take_succ_cons, List.take_zero, List.drop_succ_cons, List.drop_zero]
        repeat (first
          | ((with_reducible refine quiet_plain rfl (fun K hK => ?_)); (focus (apply quiet_val; (focus (intro w' hw; obtain ⟨hcq, hfq⟩ := bcell ((hC.out _).1 hw); go_simp; (first | done | rfl | (with_reducible exact call_below hC hw (HCt.out _ (pt HA1.out ((hC.out _).1 hw))))))); (simp only [Act.put, List.setIfInBounds_toArray, List.set_cons_succ, List.set_cons_zero]); (with_reducible refine hK _ ?_); clear hK K)))
          | ((with_reducible refine quiet_skip ?_ ?_); (focus (first | (simp [Region.wanted, yielded]; done) | (simp [Region.wanted, yielded, undef]; done))); simp only [Act.put, List.setIfInBounds_toArray, List.set_cons_succ, List.set_cons_zero])
          | ((with_reducible refine quiet_go ?_ (fun K hK => ?_)); (focus (first | (simp [Region.wanted, yielded]; done) | (simp [Region.wanted, yielded, undef]; done))); (focus (apply quiet_val; (focus (intro w' hw; obtain ⟨hcq, hfq⟩ := bcell ((hC.out _).1 hw); go_simp; (first | done | rfl | (with_reducible exact call_below hC hw (HCt.out _ (pt HA1.out ((hC.out _).1 hw))))))); (simp only [Act.put, List.setIfInBounds_toArray, List.set_cons_succ, List.set_cons_zero]); (with_reducible refine hK _ ?_); clear hK K))))
        refine wpQuiet_nil ?_
        intro w1 hb1
        replace hb1 := (hC.out _).1 hb1
        clear hC C
        obtain ⟨hc1, hf1⟩ := bcell hb1
        have HA2 := Lib.hid (pt HA1.out hb1)
        have e6 : w1.cell? ⟨b, off + j, none⟩ = some (.slice (some ⟨xb, xo, none⟩) n c4) := ((bcell HA2.out).1 _ _ hbw).trans e4
        have hbw2 : b < w1.heap.size := Nat.lt_of_lt_of_le hbw HA2.out.size
        clear hb1 hc1 hf1
        rcases HOpt.out with ⟨rfl, rfl, rfl⟩ | ⟨l, k0, b0, o0, c0, rfl, rfl, rfl, hl0, hc0, hi0⟩
        · rw [show lessB k none = true from rfl] at HStep
          go_wp2
          go_roundw
          case rel => exact ⟨j + 1, some (xs, k), by go_num, by omega, .inr ⟨xs, k, xb, xo, c4, rfl, rfl, rfl, HLl.out, hcapL.out, HIl.out _ HA2.out⟩, HStep.out, pt HQ2.out HA2.out⟩
          case measure => simp [intOf]; omega
        · have HO2 := Lib.hid (HOpt.out.past HA2.out)
          rw [show lessB k (some (l, k0)) = decide (k < k0) from rfl] at HStep
          by_cases hlt : k < k0
          · rw [decide_eq_true hlt] at HStep
            go_wp2
            go_roundw
            case rel => exact ⟨j + 1, some (xs, k), by go_num, by omega, .inr ⟨xs, k, xb, xo, c4, rfl, rfl, rfl, HLl.out, hcapL.out, HIl.out _ HA2.out⟩, HStep.out, pt HQ2.out HA2.out⟩
            case measure => simp [intOf]; omega
          · rw [decide_eq_false hlt] at HStep
            go_wp2
            go_roundw
            case rel => exact ⟨j + 1, some (l, k0), by go_num, by omega, HO2.out, HStep.out, pt HQ2.out HA2.out⟩
            case measure => simp [intOf]; omega
      · have hmb : (mv != 2) = true := by simpa using hmv
        rw [decide_eq_false hmv, Bool.false_and] at HStep
        clear hmv
        go_wp2
        refine region_below 7 follows_mixed (by kernel_rfl) ?_
        intro C hC
        simp only [List.take_succ_cons, List.take_zero, List.drop_succ_cons, List.drop_zero]
        repeat (first
          | ((with_reducible refine quiet_plain rfl (fun K hK => ?_)); (focus (apply quiet_val; (focus (intro w' hw; obtain ⟨hcq, hfq⟩ := bcell ((hC.out _).1 hw); go_simp; (first | done | rfl | (with_reducible exact call_below hC hw (HMt.out _ ((hC.out _).1 hw)))))); (simp only [Act.put, List.setIfInBounds_toArray, List.set_cons_succ, List.set_cons_zero]); (with_reducible refine hK _ ?_); clear hK K)))
          | ((with_reducible refine quiet_skip ?_ ?_); (focus (first | (simp [Region.wanted, yielded]; done) | (simp [Region.wanted, yielded, undef]; done))); simp only [Act.put, List.setIfInBounds_toArray, List.set_cons_succ, List.set_cons_zero])
          | ((with_reducible refine quiet_go ?_ (fun K hK => ?_)); (focus (first | (simp [Region.wanted, yielded]; done) | (simp [Region.wanted, yielded, undef]; done))); (focus (apply quiet_val; (focus (intro w' hw; obtain ⟨hcq, hfq⟩ := bcell ((hC.out _).1 hw); go_simp; (first | done | rfl | (with_reducible exact call_below hC hw (HMt.out _ ((hC.out _).1 hw)))))); (simp only [Act.put, List.setIfInBounds_toArray, List.set_cons_succ, List.set_cons_zero]); (with_reducible refine hK _ ?_); clear hK K))))
        refine wpQuiet_nil ?_
        intro w1 hb1
        replace hb1 := (hC.out _).1 hb1
        clear hC C
        obtain ⟨hc1, hf1⟩ := bcell hb1
        have HA1 := Lib.hid hb1
        clear hb1 hc1 hf1
        go_wp2
        go_roundw
        case rel => exact ⟨j + 1, T, by go_num, by omega, HOpt.out.past HA1.out, HStep.out, pt HQ2.out HA1.out⟩
        case measure => simp [intOf]; omega
    · have hje : j = LL.length := by omega
      subst hje
      rw [List.drop_length] at hT
      have HT := Lib.hid (show F = T from hT)
      clear hT
      rcases HOpt.out with ⟨rfl, rfl, rfl⟩ | ⟨l, k0, b0, o0, c0, rfl, rfl, rfl, hl0, hc0, hi0⟩
      · go_wp2
        refine bodyPost_ret (v := .tuple #[.slice none 0 0, .int .i64 0, .bool false]) (by simp [results, Tryz.results15, go_sem]) rfl ?_
        rw [HT.out]
        exact ⟨HQw.out, .inl ⟨rfl, rfl⟩⟩
      · have HI0 := Lib.hid hi0
        clear hi0
        go_wp2
        refine bodyPost_ret (v := .tuple #[.slice (some ⟨b0, o0, none⟩) n c0, .int .i64 k0, .bool true]) (by simp [results, Tryz.results15, go_sem]) rfl ?_
        rw [HT.out]
        exact ⟨HQw.out, .inr ⟨l, k0, b0, o0, c0, rfl, rfl, hl0, hc0, HI0.out⟩⟩

end Go.Proofs.YtncbigkkmgnkmaaGreatDoor
end

section
namespace Go.Proofs.YtncbigkkmgnkmaaGreatDoor
open Go.RowKit

/-- The values us are requirements that read as rs; their terms lie below B. -/
def OldRow (B : Nat) (w : World) (us : List Value) (rs : List DReq) : Prop :=
  us.length = rs.length * 4 ∧ ∀ i, i < rs.length → ∃ A c, us[i * 4]? = some (.slice A (rs.getD i default).ts.length c) ∧ us[i * 4 + 1]? = some (.bool (rs.getD i default).ge) ∧ us[i * 4 + 2]? = some (.int .i64 (rs.getD i default).lim) ∧ us[i * 4 + 3]? = some (.int .i64 (rs.getD i default).unit) ∧ CellsIn B w A (termsC (rs.getD i default).ts) ∧ (rs.getD i default).ts.length ≤ c
theorem OldRow.nil {B : Nat} {w : World} : OldRow B w [] [] := ⟨rfl, fun i hi => by simp at hi⟩
theorem OldRow.below {B : Nat} {w w' : World} {us : List Value} {rs : List DReq} (h : OldRow B w us rs) (hk : Below B w w') : OldRow B w' us rs := ⟨h.1, fun i hi => by
  obtain ⟨A, c, h0, h1, h2, h3, h4, h5⟩ := h.2 i hi
  exact ⟨A, c, h0, h1, h2, h3, h4.below hk, h5⟩⟩
theorem OldRow.snoc {B : Nat} {w : World} {us : List Value} {rs : List DReq} (h : OldRow B w us rs) {r : DReq} {A : Option Addr} {c : Nat} (hl : CellsIn B w A (termsC r.ts)) (hc : r.ts.length ≤ c) : OldRow B w (us ++ [.slice A r.ts.length c, .bool r.ge, .int .i64 r.lim, .int .i64 r.unit]) (rs ++ [r]) := by
  refine ⟨by simp [h.1]; omega, fun i hi => ?_⟩
  rcases Nat.lt_or_ge i rs.length with h2 | h2
  · obtain ⟨A', c', h3, h4, h5, h6, h7, h8⟩ := h.2 i h2
    have e : (rs ++ [r]).getD i default = rs.getD i default := by simp [List.getD, List.getElem?_append_left h2]
    have hl := h.1
    rw [e]
    exact ⟨A', c', by rw [List.getElem?_append_left (by omega)]; exact h3, by rw [List.getElem?_append_left (by omega)]; exact h4, by rw [List.getElem?_append_left (by omega)]; exact h5, by rw [List.getElem?_append_left (by omega)]; exact h6, h7, h8⟩
  · have hie : i = rs.length := by simp at hi; omega
    subst hie
    have e : (rs ++ [r]).getD rs.length default = r := by simp [List.getD]
    have hl2 := h.1
    rw [e]
    exact ⟨A, c, by rw [List.getElem?_append_right (by omega), hl2, Nat.sub_self]; rfl, by rw [List.getElem?_append_right (by omega), hl2, show rs.length * 4 + 1 - rs.length * 4 = 1 by omega]; rfl, by rw [List.getElem?_append_right (by omega), hl2, show rs.length * 4 + 2 - rs.length * 4 = 2 by omega]; rfl, by rw [List.getElem?_append_right (by omega), hl2, show rs.length * 4 + 3 - rs.length * 4 = 3 by omega]; rfl, hl, hc⟩
theorem OldRow.reqs {B : Nat} {w : World} {us : List Value} {rs : List DReq} {base n c : Nat} {A : Option Addr} (h : OldRow B w us rs) (hB : B ≤ w.heap.size) (ho : w.ownsRow base 87 4 (.slice A n c) n us) : ReqsIn w.heap.size w A rs := by
  rcases cellsIn_of_own ho with hu | ⟨b, off, hA, hb, hc⟩
  · refine .inl ?_
    have := h.1
    rw [hu] at this
    exact List.eq_nil_of_length_eq_zero (by simp at this; omega)
  · refine .inr ⟨b, off, hA, hb, fun i hi => ?_⟩
    obtain ⟨A', c', h0, h1, h2, h3, h4, h5⟩ := h.2 i hi
    have hl := h.1
    exact ⟨A', c', (hc _ (by omega)).trans h0, (hc _ (by omega)).trans h1, (hc _ (by omega)).trans h2, (hc _ (by omega)).trans h3, h4.more hB, h5⟩
theorem pick_snoc {rs : List DReq} {set : List Int} {i : Nat} (h : i < set.length) : pickR rs (set.take (i + 1)) = pickR rs (set.take i) ++ [rs.getD (set.getD i 0).toNat default] := by
  unfold pickR
  rw [List.take_succ_eq_append_getElem h, List.map_append]
  simp [List.getD, h]
theorem pick_len (rs : List DReq) (set : List Int) : (pickR rs set).length = set.length := List.length_map _

set_option maxHeartbeats 4000000 in
set_option maxRecDepth 100000 in
theorem only_any (B : Nat) (rs : List DReq) (A : Option Addr) (n c : Nat) (set : List Int) (CA : Option Addr) (m cc : Nat) (w : World) (hr : ReqsIn B w A rs) (hc : IntsIn B w CA set) (hB : B ≤ w.heap.size) (hn : rs.length = n) (hm : set.length = m) (hm2 : m ≤ 1000) (hs : ∀ j, j < m → 0 ≤ set.getD j 0 ∧ set.getD j 0 < (n : Int)) :
    Calls Tryz.prog 56 #[.agg #[.slice A n c], .slice CA m cc] w (SpecRet w (pickR rs set)) := by
  obtain ⟨s0, hs0, hsz, hss, hsb⟩ := info_partsC req_infoC
  have HR := Lib.hid hr
  have HC := Lib.hid hc
  have HS2 := Lib.hid hs
  have HN := Lib.hid hn
  have HM := Lib.hid hm
  clear hr hs hc hn hm
  go_enter Tryz.func56, Tryz.ntmps56
  go_wp2
  go_loopw [6] (fun ix wr => ∃ (i : Nat) (A' : Option Addr) (c' : Nat) (us : List Value), ix = .int .i64 (i : Int) ∧ i ≤ m ∧ Blk wr w.heap.size 24 #[.slice A n c] ∧ Blk wr (w.heap.size + 1) 24 #[.slice none 0 0] ∧ Blk wr (w.heap.size + 1 + 1) 24 #[.slice A' i c'] ∧ wr.ownsRow w.heap.size 87 4 (.slice A' i c') i us ∧ OldRow B wr us (pickR rs (set.take i)) ∧ Below w.heap.size w wr) (fun ix _ => m - (intOf ix).toNat)
  case atStart => exact ⟨0, none, 0, [], rfl, Nat.zero_le _, ((Blk.newAt rfl).alloc).alloc, (Blk.newAt (by simp)).alloc, Blk.newAt (by simp), World.ownsRow_nil _ _ _ _, OldRow.nil, pa (pa (pa pr))⟩
  case round =>
    obtain ⟨i, A', c', us, rfl, hi, k0, k1, k2, hown, hrow, hq⟩ := hrel
    by_cases hlt : i < m
    · obtain ⟨b2, o2, rfl, hb2, hc2⟩ := HC.out.at_ (k := i) (by rw [HM.out]; exact hlt)
      have e2 := hc2 i (by rw [HM.out]; exact hlt)
      have hyb := HS2.out i hlt
      have HStep := Lib.hid (pick_snoc (rs := rs) (set := set) (i := i) (by rw [HM.out]; exact hlt))
      generalize set.getD i 0 = y at *
      obtain ⟨yn, rfl⟩ : ∃ yn : Nat, y = (yn : Int) := ⟨y.toNat, by omega⟩
      rw [Int.toNat_natCast] at HStep
      have hyl : yn < rs.length := by rw [HN.out]; omega
      obtain ⟨b, off, rfl, hbB, hct⟩ := HR.out.at_ hyl
      obtain ⟨A3, c3, t0, t1, t2, t3, tps, tc⟩ := hct yn hyl
      have HPs := Lib.hid tps
      have n0 : (0 : Int) ≤ (i : Int) := by omega
      have n1 : (i : Int) < (m : Int) := by omega
      have y0 : (0 : Int) ≤ (yn : Int) := by omega
      have y1 : (yn : Int) < (n : Int) := hyb.2
      generalize rs.getD yn default = r at *
      have HCs := Lib.hid (fun W (hW : Below w.heap.size w W) => (show W.cell? ⟨b2, o2 + i, none⟩ = some (.int .i64 (yn : Int)) ∧ W.cell? ⟨b, off + yn * 4, none⟩ = some (.slice A3 r.ts.length c3) ∧ W.cell? ⟨b, off + yn * 4 + 1, none⟩ = some (.bool r.ge) ∧ W.cell? ⟨b, off + yn * 4 + 2, none⟩ = some (.int .i64 r.lim) ∧ W.cell? ⟨b, off + yn * 4 + 3, none⟩ = some (.int .i64 r.unit) from
        ⟨((bcell hW).1 _ _ (by omega)).trans e2, ((bcell hW).1 _ _ (by omega)).trans t0, ((bcell hW).1 _ _ (by omega)).trans t1, ((bcell hW).1 _ _ (by omega)).trans t2, ((bcell hW).1 _ _ (by omega)).trans t3⟩))
      have HOwn := Lib.hid hown
      have HRow := Lib.hid hrow
      have HQ := Lib.hid hq
      have K0 := Lib.hid k0
      have K1 := Lib.hid k1
      have K2 := Lib.hid k2
      have hqs := hq.size
      have hbw : b < wr.heap.size := by omega
      have hb2w : b2 < wr.heap.size := by omega
      clear hown hrow hq k0 k1 k2 hct hc2 e2 t0 t1 t2 t3 tps hyb
      go_wp2
      have HSS := Lib.hid (fun W (hW : Below w.heap.size w W) (h0 : Blk W w.heap.size 24 #[.slice (some ⟨b, off, none⟩) n c]) (h2 : Blk W (w.heap.size + 1 + 1) 24 #[.slice A' i c']) => (show W.cell? ⟨w.heap.size, 0, none⟩ = some (.slice (some ⟨b, off, none⟩) n c) ∧ W.cell? ⟨w.heap.size + 1 + 1, 0, none⟩ = some (.slice A' i c') ∧ W.cell? ⟨b2, o2 + i, none⟩ = some (.int .i64 (yn : Int)) ∧ W.cell? ⟨b, off + yn * 4, none⟩ = some (.slice A3 r.ts.length c3) ∧ W.cell? ⟨b, off + yn * 4 + 1, none⟩ = some (.bool r.ge) ∧ W.cell? ⟨b, off + yn * 4 + 2, none⟩ = some (.int .i64 r.lim) ∧ W.cell? ⟨b, off + yn * 4 + 3, none⟩ = some (.int .i64 r.unit) from ⟨h0.cellAt 0 rfl, h2.cellAt 0 rfl, (HCs.out W hW).1, (HCs.out W hW).2.1, (HCs.out W hW).2.2.1, (HCs.out W hW).2.2.2.1, (HCs.out W hW).2.2.2.2⟩))
      refine wp_region_G 13 follows_mixed (fun W => W.cell? ⟨w.heap.size, 0, none⟩ = some (.slice (some ⟨b, off, none⟩) n c) ∧ W.cell? ⟨w.heap.size + 1 + 1, 0, none⟩ = some (.slice A' i c') ∧ W.cell? ⟨b2, o2 + i, none⟩ = some (.int .i64 (yn : Int)) ∧ W.cell? ⟨b, off + yn * 4, none⟩ = some (.slice A3 r.ts.length c3) ∧ W.cell? ⟨b, off + yn * 4 + 1, none⟩ = some (.bool r.ge) ∧ W.cell? ⟨b, off + yn * 4 + 2, none⟩ = some (.int .i64 r.lim) ∧ W.cell? ⟨b, off + yn * 4 + 3, none⟩ = some (.int .i64 r.unit)) (HSS.out _ (pd HQ.out) K0.out.drew K2.out.drew) ?_
      intro hSd inv
      have HSd := Lib.hid hSd
      clear hSd
      refine wpAnyG_take (i := 0) (v := ?_) rfl (by kernel_rfl) (by kernel_rfl) (by kernel_rfl) (by kernel_rfl) (by kernel_rfl) (by decide) (by decide) inv (fun _ _ _ h => h) (Or.inl ⟨by rfl, ?_⟩) HSd.out ?_; rotate_left; (focus (intro W y1; obtain ⟨y1, y2, y3, y4, y5, y6, y7⟩ := y1; go_simp; (first | done | with_reducible rfl))); clear inv; intro inv; simp only [List.getElem_toArray, List.getElem_cons_zero, Act.put, List.setIfInBounds_toArray, List.set_cons_zero, List.set_cons_succ]
      refine wpAnyG_take (i := 1) (v := ?_) rfl (by kernel_rfl) (by kernel_rfl) (by kernel_rfl) (by kernel_rfl) (by kernel_rfl) (by decide) (by decide) inv (fun _ _ _ h => h) (Or.inl ⟨by rfl, ?_⟩) HSd.out ?_; rotate_left; (focus (intro W y1; obtain ⟨y1, y2, y3, y4, y5, y6, y7⟩ := y1; go_simp; (first | done | with_reducible rfl))); clear inv; intro inv; simp only [List.getElem_toArray, List.getElem_cons_zero, List.getElem_cons_succ, Act.put, List.setIfInBounds_toArray, List.set_cons_zero, List.set_cons_succ]
      refine wpAnyG_take (i := 2) (v := ?_) rfl (by kernel_rfl) (by kernel_rfl) (by kernel_rfl) (by kernel_rfl) (by kernel_rfl) (by decide) (by decide) inv (fun _ _ _ h => h) (Or.inl ⟨by rfl, ?_⟩) HSd.out ?_; rotate_left; (focus (intro W y1; obtain ⟨y1, y2, y3, y4, y5, y6, y7⟩ := y1; go_simp; (first | done | with_reducible rfl))); clear inv; intro inv; simp only [List.getElem_toArray, List.getElem_cons_zero, List.getElem_cons_succ, Act.put, List.setIfInBounds_toArray, List.set_cons_zero, List.set_cons_succ]
      refine wpAnyG_take (i := 3) (v := ?_) rfl (by kernel_rfl) (by kernel_rfl) (by kernel_rfl) (by kernel_rfl) (by kernel_rfl) (by decide) (by decide) inv (fun _ _ _ h => h) (Or.inl ⟨by rfl, ?_⟩) HSd.out ?_; rotate_left; (focus (intro W y1; obtain ⟨y1, y2, y3, y4, y5, y6, y7⟩ := y1; go_simp; (first | done | with_reducible rfl))); clear inv; intro inv; simp only [List.getElem_toArray, List.getElem_cons_zero, List.getElem_cons_succ, Act.put, List.setIfInBounds_toArray, List.set_cons_zero, List.set_cons_succ]
      refine wpAnyG_take (i := 4) (v := ?_) rfl (by kernel_rfl) (by kernel_rfl) (by kernel_rfl) (by kernel_rfl) (by kernel_rfl) (by decide) (by decide) inv (fun _ _ _ h => h) (Or.inl ⟨by rfl, ?_⟩) HSd.out ?_; rotate_left; (focus (intro W y1; obtain ⟨y1, y2, y3, y4, y5, y6, y7⟩ := y1; go_simp; (first | done | with_reducible rfl))); clear inv; intro inv; simp only [List.getElem_toArray, List.getElem_cons_zero, List.getElem_cons_succ, Act.put, List.setIfInBounds_toArray, List.set_cons_zero, List.set_cons_succ]
      refine wpAnyG_take (i := 5) (v := ?_) rfl (by kernel_rfl) (by kernel_rfl) (by kernel_rfl) (by kernel_rfl) (by kernel_rfl) (by decide) (by decide) inv (fun _ _ _ h => h) (Or.inl ⟨by rfl, ?_⟩) HSd.out ?_; rotate_left; (focus (intro W y1; obtain ⟨y1, y2, y3, y4, y5, y6, y7⟩ := y1; go_simp; (first | done | with_reducible rfl))); clear inv; intro inv; simp only [List.getElem_toArray, List.getElem_cons_zero, List.getElem_cons_succ, Act.put, List.setIfInBounds_toArray, List.set_cons_zero, List.set_cons_succ]
      refine wpAnyG_take (i := 6) (v := ?_) rfl (by kernel_rfl) (by kernel_rfl) (by kernel_rfl) (by kernel_rfl) (by kernel_rfl) (by decide) (by decide) inv (fun _ _ _ h => h) (Or.inl ⟨by rfl, ?_⟩) HSd.out ?_; rotate_left; (focus (intro W y1; obtain ⟨y1, y2, y3, y4, y5, y6, y7⟩ := y1; go_simp; (first | done | with_reducible rfl))); clear inv; intro inv; simp only [List.getElem_toArray, List.getElem_cons_zero, List.getElem_cons_succ, Act.put, List.setIfInBounds_toArray, List.set_cons_zero, List.set_cons_succ]
      refine wpAnyG_take (i := 7) (v := ?_) rfl (by kernel_rfl) (by kernel_rfl) (by kernel_rfl) (by kernel_rfl) (by kernel_rfl) (by decide) (by decide) inv (fun _ _ _ h => h) (Or.inl ⟨by rfl, ?_⟩) HSd.out ?_; rotate_left; (focus (intro W y1; obtain ⟨y1, y2, y3, y4, y5, y6, y7⟩ := y1; go_simp; (first | done | with_reducible rfl))); clear inv; intro inv; simp only [List.getElem_toArray, List.getElem_cons_zero, List.getElem_cons_succ, Act.put, List.setIfInBounds_toArray, List.set_cons_zero, List.set_cons_succ]
      refine wpAnyG_take (i := 8) (v := ?_) rfl (by kernel_rfl) (by kernel_rfl) (by kernel_rfl) (by kernel_rfl) (by kernel_rfl) (by decide) (by decide) inv (fun _ _ _ h => h) (Or.inl ⟨by rfl, ?_⟩) HSd.out ?_; rotate_left; (focus (intro W y1; obtain ⟨y1, y2, y3, y4, y5, y6, y7⟩ := y1; go_simp; (first | done | with_reducible rfl))); clear inv; intro inv; simp only [List.getElem_toArray, List.getElem_cons_zero, List.getElem_cons_succ, Act.put, List.setIfInBounds_toArray, List.set_cons_zero, List.set_cons_succ]
      refine wpAnyG_take (i := 9) (v := ?_) rfl (by kernel_rfl) (by kernel_rfl) (by kernel_rfl) (by kernel_rfl) (by kernel_rfl) (by decide) (by decide) inv (fun _ _ _ h => h) (Or.inl ⟨by rfl, ?_⟩) HSd.out ?_; rotate_left; (focus (intro W y1; obtain ⟨y1, y2, y3, y4, y5, y6, y7⟩ := y1; go_simp; (first | done | with_reducible rfl))); clear inv; intro inv; simp only [List.getElem_toArray, List.getElem_cons_zero, List.getElem_cons_succ, Act.put, List.setIfInBounds_toArray, List.set_cons_zero, List.set_cons_succ]
      clear inv
      refine wpAnyG_one (i := 10) (by kernel_rfl) rfl rfl fun K hK => ?_
      go_simp
      have hBr : Below wr.heap.size wr ((wr.alloc (.cells #[.slice A3 r.ts.length c3, .bool r.ge, .int .i64 r.lim, .int .i64 r.unit] 87)).drew) := pd (pa pr)
      have HB2 := Lib.hid (pt HQ.out hBr)
      have K0a := Lib.hid (K0.out.past hBr)
      have K1a := Lib.hid (K1.out.past hBr)
      have K2a := Lib.hid (K2.out.past hBr)
      have HOa := Lib.hid (own_past hBr HOwn.out)
      have HC1 := Lib.hid (show CellsIn (wr.heap.size + 1) ((wr.alloc (.cells #[.slice A3 r.ts.length c3, .bool r.ge, .int .i64 r.lim, .int .i64 r.unit] 87)).drew) (some ⟨wr.heap.size, 0, none⟩) [.slice A3 r.ts.length c3, .bool r.ge, .int .i64 r.lim, .int .i64 r.unit] from cells_new wr 87 #[.slice A3 r.ts.length c3, .bool r.ge, .int .i64 r.lim, .int .i64 r.unit])
      have hsx : ((wr.alloc (.cells #[.slice A3 r.ts.length c3, .bool r.ge, .int .i64 r.lim, .int .i64 r.unit] 87)).drew).heap.size = wr.heap.size + 1 := by simp [World.drew]
      generalize (wr.alloc (.cells #[.slice A3 r.ts.length c3, .bool r.ge, .int .i64 r.lim, .int .i64 r.unit] 87)).drew = wx at *
      refine hK.out _ _ (fun _ => HSS.out _ HB2.out K0a.out K2a.out) ?_
      clear hK K
      refine wpAnyG_one (i := 11) (by kernel_rfl) rfl rfl fun K hK => ?_
      refine wp_append_cells _ (.tmp 14) (.tmp 23) _ (by rfl) w.heap.size 87 s0 _ 4 48 Tryz.underlying22 hs0 hsz hss hsb (by rfl) (by omega) (.slice A' i c') i us (by rfl) HOa.out (wr.heap.size + 1) (some ⟨wr.heap.size, 0, none⟩) 1 1 [.slice A3 r.ts.length c3, .bool r.ge, .int .i64 r.lim, .int .i64 r.unit] (by rfl) HC1.out rfl (by simp [Value.oneCell']) (by simp only [maxLen]; omega) (by omega) (by omega) ?_
      intro v4 w4 hown4 hg4 _
      obtain ⟨A4, c4, rfl, hc4, _⟩ := own_form hown4
      have HB4 := Lib.hid (pg HB2.out HOa.out (Nat.le_refl _) hg4)
      have K04 := Lib.hid (K0a.out.grown hg4 (own_ne HOa.out K0a.out (by decide)))
      have K14 := Lib.hid (K1a.out.grown hg4 (own_ne HOa.out K1a.out (by decide)))
      have K24 := Lib.hid (K2a.out.grown hg4 (own_ne HOa.out K2a.out (by decide)))
      have HRow4 := Lib.hid ((HRow.out.below (hBr.mono (by omega))).snoc (r := r) (HPs.out.below (HB2.out.mono hB)) tc)
      have HRow5 := Lib.hid (HRow4.out.below (w := wx) (w' := w4) ((show Below w.heap.size wx w4 from ⟨hg4.os, hg4.tape, hg4.output, hg4.size, fun k hk => hg4.block k (by have := HB2.out.size; omega) (fun e => by have := (HOa.out.lt k e.symm).1; omega)⟩).mono hB))
      have HO4 := Lib.hid hown4
      clear hown4 hg4 HOa K0a K1a K2a HRow4 hBr HB2 HRow HOwn K0 K1 K2 HC1
      refine hK.out _ _ (fun _ => HSS.out _ HB4.out K04.out K24.out) ?_
      clear hK K
      refine wpAnyG_one (i := 12) (by kernel_rfl) rfl rfl fun K hK => ?_
      go_simp
      refine hK.out _ _ (fun _ => HSS.out _ HB4.out K04.out K24.out) ?_
      clear hK K
      refine wpAnyG_one (i := 13) (by kernel_rfl) rfl rfl fun K hK => ?_
      have q1 : w4.cell? ⟨w.heap.size + 1 + 1, 0, none⟩ = some (.slice A' i c') := K24.out.cellAt 0 rfl
      have q2 := K24.out.frozen 0
      have q3 := K24.out.lt
      go_simp
      refine hK.out _ _ (fun h => absurd h (by decide)) ?_
      clear hK K
      refine wpAnyG_done (by kernel_rfl) ?_
      have HK0 := Lib.hid (K04.out.far (p := ⟨w.heap.size + 1 + 1, 0, none⟩) (u := .slice A4 (i + 1) c4) (by dsimp only; omega))
      have HK1 := Lib.hid (K14.out.far (p := ⟨w.heap.size + 1 + 1, 0, none⟩) (u := .slice A4 (i + 1) c4) (by dsimp only; omega))
      have HK2 := Lib.hid (K24.out.set_ 0 (.slice A4 (i + 1) c4))
      have HOw := Lib.hid (own_cellT HO4.out K24.out (by decide) (q := ⟨w.heap.size + 1 + 1, 0, none⟩) rfl (.slice A4 (i + 1) c4))
      have HRw := Lib.hid (HRow5.out.below ((show Below w.heap.size w4 (w4.setCell ⟨w.heap.size + 1 + 1, 0, none⟩ (.slice A4 (i + 1) c4)) from (Below.refl w.heap.size w4).setCell (by show w.heap.size ≤ w.heap.size + 1 + 1; omega) _).mono hB))
      have HBw := Lib.hid (ps HB4.out (p := ⟨w.heap.size + 1 + 1, 0, none⟩) (u := .slice A4 (i + 1) c4) (by dsimp only; omega))
      clear q1 q2 q3 K04 K14 K24 HO4 HRow5 HB4 HSS HSd
      go_wp2
      go_roundw
      case rel => exact ⟨i + 1, A4, c4, _, by go_num, by omega, HK0.out, HK1.out, HK2.out, HOw.out, by rw [HStep.out]; exact HRw.out, HBw.out⟩
      case measure => simp [intOf]; omega
    · obtain rfl : i = m := by omega
      rw [List.take_of_length_le (by rw [HM.out]; exact Nat.le_refl _)] at hrow
      have HRow := Lib.hid hrow
      have HOwn := Lib.hid hown
      obtain ⟨_, _, hv, hcap, _⟩ := own_form hown
      have hcap' : i ≤ c' := by injection hv with _ _ h; omega
      have K1 := Lib.hid k1
      have HQ := Lib.hid hq
      have g0 := k2.cellAt 0 rfl
      have x1 := k1.lt
      clear hown hrow hv k0 k1 k2 hq
      go_wp2_with ((with_reducible refine store_sub (T := 24) (x := .tmp 4) (y := .tmp 26) (o := 0) (vs := #[.slice A' i c']) (cs' := #[.slice A' i c']) K1.out ?_ ?_ ?_ ?_ ?_ ?_ ?_); (focus (first | rfl | (go_simp; done))); (focus (first | rfl | (go_simp; done))); (focus rfl); (focus (simp; done)); (focus exact spec_sizeC); (focus (simp [Value.oneCell']; done)); intro wF RF PF)
      have i0 := RF.cellAt 0 rfl
      have hpl : (pickR rs set).length = i := (pick_len rs set).trans HM.out
      refine bodyPost_ret (v := .agg #[.slice A' i c']) (by simp [results, Tryz.results56, go_sem, i0]) rfl ⟨A', c', by rw [hpl], ?_, by rw [hpl]; exact hcap', ?_⟩
      · exact (HRow.out.below ((PF.below w.heap.size (by omega)).mono hB)).reqs (Nat.le_trans hB (pp HQ.out PF (by omega)).size) (own_putT HOwn.out K1.out (by decide) PF)
      · exact pp HQ.out PF (by omega)

end Go.Proofs.YtncbigkkmgnkmaaGreatDoor
end
