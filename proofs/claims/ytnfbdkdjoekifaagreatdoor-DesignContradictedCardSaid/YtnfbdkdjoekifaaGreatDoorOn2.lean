/- Plain facts: the root by bits; all sets of so many numbers, as the specification lists them. No program is in sight.
What valid specifications and stocks keep; contracts: the error of a choice (package design, specification), openChoice, openAll. Printed by a program (gen_d8cho.py).
Contracts: partCost, CostOf (the specification of chapter 2), turned from package design's. Printed by a program (gen_d8ref.py). -/
import Derived.Test.YtnfbdkdjoekifaaGreatDoorOd1
import Derived.Test.YtnfbdkdjoekifaaGreatDoorOc3
import Derived.Test.YtnfbdkdjoekifaaGreatDoorOd8
import Derived.Test.YtnfbdkdjoekifaaGreatDoorOa6

section
namespace Go.Proofs.YtnfbdkdjoekifaaGreatDoor
/-- What holds before each bit: r is a part of the root, the bit is half of a power of two. -/
def RootI (n : Int) (k : Nat) (r b : Int) : Prop := k ≤ 31 ∧ 0 ≤ r ∧ r * r ≤ n ∧ b = 2 ^ k / 2 ∧ n < (r + 2 ^ k) * (r + 2 ^ k)
/-- The first number that may follow a set. -/
def nextV (xs : List Int) : Nat := if xs.length = 0 then 0 else (xs.getD (xs.length - 1) 0).toNat + 1
/-- All sets of numbers below count that begin with xs and have d more, each one ascending. -/
def subsV (count : Nat) : Nat → List Int → List (List Int)
  | 0, xs => [xs]
  | d + 1, xs => ((List.range (count - nextV xs)).map fun j => subsV count d (xs ++ [((nextV xs + j : Nat) : Int)])).flatten
def subsUpto (count d : Nat) (xs : List Int) (k : Nat) : List (List Int) := ((List.range k).map fun j => subsV count d (xs ++ [((nextV xs + j : Nat) : Int)])).flatten
end Go.Proofs.YtnfbdkdjoekifaaGreatDoor
end

section
namespace Go.Proofs.YtnfbdkdjoekifaaGreatDoor
open Go.RowKit

/-- Each part has the values of six quantities. -/
def Six (sl : List (List DPart)) : Prop := ∀ l ∈ sl, ∀ p ∈ l, p.vs.length = 6
theorem valuesE_ok {p : DPart} (h6 : p.vs.length = 6) (h : valuesE p = 0) : ∀ q : Int, 0 ≤ (valP p q).1 ∧ (valP p q).1 ≤ (valP p q).2 ∧ (valP p q).2 ≤ 1000000 := by
  intro q
  by_cases hq : q.toNat < 6
  · have h1 := scan_none (m := 6) (k := 0) rfl h q.toNat (Nat.zero_le _) hq
    have hv : valP p ((q.toNat : Nat) : Int) = valP p q := by unfold valP; rw [Int.toNat_natCast]
    unfold valErr rangeE at h1
    rw [hv] at h1
    obtain ⟨h2, h3⟩ := firstV_zero.1 h1
    have g1 := (unless_ne (by decide)).1 h2
    have g2 := (unless_ne (by decide)).1 (firstV_zero.1 h3).1
    simp only [withinB, Bool.and_eq_true, decide_eq_true_eq] at g1 g2
    omega
  · have : valP p q = (0, 0) := by unfold valP; rw [List.getD_eq_getElem?_getD, List.getElem?_eq_none (by omega)]; rfl
    rw [this]
    decide
theorem partE_ok {p : DPart} (h6 : p.vs.length = 6) (h : partE p = 0) : PartOk p := by
  unfold partE at h
  by_cases h1 : partE1 p = 0
  · rw [if_neg (by simpa using h1)] at h
    have g1 := (unless_ne (by decide)).1 (firstV_zero.1 (firstV_zero.1 h1).2).1
    simp only [withinB, Bool.and_eq_true, decide_eq_true_eq] at g1
    exact ⟨h6, g1, valuesE_ok h6 h⟩
  · rw [if_pos h1] at h
    exact absurd h h1
theorem mem_getD {α : Type} [Inhabited α] {l : List α} {x : α} (h : x ∈ l) : ∃ i, i < l.length ∧ l.getD i default = x := by
  obtain ⟨i, hi, he⟩ := List.getElem_of_mem h
  exact ⟨i, hi, by rw [← he]; simp [List.getD, hi]⟩
theorem slotE_ok {l : List DPart} (h6 : ∀ p ∈ l, p.vs.length = 6) (h : slotE l = 0) : (0 < l.length ∧ l.length ≤ 6) ∧ ∀ p ∈ l, PartOk p := by
  unfold slotE at h
  by_cases h1 : slotE1 l.length = 0
  · rw [if_neg (by simpa using h1)] at h
    have g0 := (unless_ne (by decide)).1 (firstV_zero.1 h1).1
    have g1 := (unless_ne (by decide)).1 (firstV_zero.1 (firstV_zero.1 h1).2).1
    simp only [decide_eq_true_eq] at g0 g1
    refine ⟨⟨g0, by omega⟩, fun p hp => ?_⟩
    obtain ⟨i, hi, he⟩ := mem_getD hp
    have h2 := scan_none (m := l.length) (k := 0) rfl h i (Nat.zero_le _) hi
    unfold slotErrs at h2
    have h3 := (firstV_zero.1 (firstV_zero.1 (firstV_zero.1 h2).2).2).1
    rw [he] at h3
    exact partE_ok (h6 p hp) h3
  · rw [if_pos h1] at h
    exact absurd h h1
theorem stockE_ok {idle price : Int} {sl : List (List DPart)} (h6 : Six sl) (h : (stockE idle price sl).2 = 0) : SlotsOk sl ∧ (0 ≤ idle ∧ idle ≤ 1000) ∧ 0 ≤ price ∧ price ≤ 1000 := by
  unfold stockE at h
  by_cases h1 : stockE1 idle price sl.length = 0
  · rw [if_neg (by simpa using h1)] at h
    have g0 := (unless_ne (by decide)).1 (firstV_zero.1 h1).1
    have g1 := (unless_ne (by decide)).1 (firstV_zero.1 (firstV_zero.1 h1).2).1
    have g2 := (unless_ne (by decide)).1 (firstV_zero.1 (firstV_zero.1 (firstV_zero.1 h1).2).2).1
    simp only [withinB, Bool.and_eq_true, decide_eq_true_eq] at g0 g1 g2
    refine ⟨⟨⟨g1, by omega⟩, fun l hl => ?_⟩, g0.1, g0.2⟩
    obtain ⟨i, hi, he⟩ := mem_getD hl
    have h2 := scan_none (m := sl.length) (k := 0) rfl h i (Nat.zero_le _) hi
    unfold slotsErr at h2
    have hd : sl.getD i default = sl.getD i [] := rfl
    rw [← hd, he] at h2
    exact slotE_ok (h6 l hl) h2
  · rw [if_pos h1] at h
    exact absurd h h1
theorem reqE_ok {r : DReq} (h : reqE r = 0) : ReqOk r := by
  unfold reqE at h
  by_cases h1 : reqE1 r.ts.length = 0
  · rw [if_neg (by simpa using h1)] at h
    by_cases h2 : (scan (termErrs r) r.ts.length 0).2 = 0
    · rw [if_neg (by simpa using h2)] at h
      have g1 := (unless_ne (by decide)).1 (firstV_zero.1 (firstV_zero.1 h1).2).1
      have g3 := (unless_ne (by decide)).1 h
      simp only [withinB, Bool.and_eq_true, decide_eq_true_eq] at g1 g3
      refine ⟨⟨by omega, fun t ht => ?_⟩, g3⟩
      obtain ⟨i, hi, he⟩ := mem_getD ht
      have h4 := scan_none (m := r.ts.length) (k := 0) rfl h2 i (Nat.zero_le _) hi
      unfold termErrs at h4
      rw [he] at h4
      unfold termE at h4
      by_cases h5 : termE1 t = 0
      · obtain ⟨⟨_, a1, a2⟩, a3, a4⟩ := termE1_ok h5
        exact ⟨⟨a1, a2⟩, a3, a4⟩
      · rw [if_pos h5] at h4
        exact absurd h4 h5
    · rw [if_pos h2] at h
      exact absurd h h2
  · rw [if_pos h1] at h
    exact absurd h h1
theorem specE_ok {rs : List DReq} (h : (specE rs).2 = 0) : (0 < rs.length ∧ rs.length ≤ 6) ∧ ∀ r ∈ rs, ReqOk r := by
  unfold specE at h
  by_cases h1 : specE1 rs.length = 0
  · rw [if_neg (by simpa using h1)] at h
    have g0 := (unless_ne (by decide)).1 (firstV_zero.1 h1).1
    have g1 := (unless_ne (by decide)).1 (firstV_zero.1 (firstV_zero.1 h1).2).1
    simp only [decide_eq_true_eq] at g0 g1
    refine ⟨⟨g0, by omega⟩, fun r hr => ?_⟩
    obtain ⟨i, hi, he⟩ := mem_getD hr
    have h2 := scan_none (m := rs.length) (k := 0) rfl h i (Nat.zero_le _) hi
    unfold reqErrs at h2
    rw [he] at h2
    exact reqE_ok h2
  · rw [if_pos h1] at h
    exact absurd h h1
theorem openE_zero {rs : List DReq} {idle price : Int} {sl : List (List DPart)} : openE rs idle price sl = 0 ↔ (specE rs).2 = 0 ∧ (stockE idle price sl).2 = 0 := by
  unfold openE
  rw [firstV_zero, firstV_zero]
  simp [firstV]
theorem openE_ok {rs : List DReq} {idle price : Int} {sl : List (List DPart)} (h6 : Six sl) (h : openE rs idle price sl = 0) : TaskOk rs idle price sl := by
  obtain ⟨h1, h2⟩ := openE_zero.1 h
  obtain ⟨a1, a2, a3⟩ := stockE_ok h6 h2
  obtain ⟨b1, b2⟩ := specE_ok h1
  exact ⟨a1, b2, b1.2, a2, a3⟩

/-- The error of a choice. -/
def chErr (sl : List (List DPart)) (ch : List Int) (i : Nat) : Int := if withinB (ch.getD i 0) 0 (((sl.getD i []).length : Int) - 1) = true then 0 else 6
def choiceE (sl : List (List DPart)) (ch : List Int) : Int := if ch.length = sl.length then (scan (chErr sl ch) ch.length 0).2 else 10
theorem choiceE_of {sl : List (List DPart)} {ch : List Int} (h : ChoiceOk sl ch) : choiceE sl ch = 0 := by
  unfold choiceE
  rw [if_pos h.1, scan_all (m := ch.length) (k := 0) rfl fun j _ hj => ?_]
  have h2 := h.2 j (by rw [← h.1]; exact hj)
  unfold chErr
  rw [if_pos (by simp only [withinB, Bool.and_eq_true, decide_eq_true_eq]; omega)]


set_option maxHeartbeats 4000000 in
set_option maxRecDepth 100000 in
theorem refChoiceErr_any (B : Nat) (sl : List (List DPart)) (SA : Option Addr) (n c : Nat) (idle price : Int) (ch : List Int) (CA : Option Addr) (m cc : Nat) (w : World) (hr : SlotsIn B w SA sl) (hc : IntsIn B w CA ch) (hB : B ≤ w.heap.size) (hn : sl.length = n) (hm : ch.length = m) (hn1 : n ≤ 1000) (hs : ∀ l ∈ sl, l.length ≤ 1000) :
    Calls Tryz.prog 14 #[.agg #[.slice SA n c, .int .i64 idle, .int .i64 price], .slice CA m cc] w fun e w' => e = .returned (.int .i64 (choiceE sl ch)) ∧ Below w.heap.size w w' := by
  have HT := Lib.hid (show choiceE sl ch = if ch.length = sl.length then (scan (chErr sl ch) ch.length 0).2 else 10 from rfl)
  have HR := Lib.hid hr
  have HC := Lib.hid hc
  have HN := Lib.hid hn
  have HM := Lib.hid hm
  have HS1 := Lib.hid hs
  clear hr hc hs
  generalize choiceE sl ch = E at *
  have R0 := Lib.hid (show Blk (w.alloc (.cells #[.slice SA n c, .int .i64 idle, .int .i64 price] 27)) w.heap.size 27 #[.slice SA n c, .int .i64 idle, .int .i64 price] from Blk.newAt rfl)
  have HB0 := Lib.hid (show Below w.heap.size w (w.alloc (.cells #[.slice SA n c, .int .i64 idle, .int .i64 price] 27)) from pa pr)
  have x0 := R0.out.cellAt 0 rfl
  have xl := R0.out.lt
  by_cases hmn : m = n
  · obtain rfl := hmn.symm
    have HX := Lib.hid (show E = (scan (chErr sl ch) n 0).2 by rw [HT.out, if_pos (by rw [hm, hn]), hm])
    have z1 : ((n : Int) == (n : Int)) = true := by simp
    have z2 : ((n : Int) != (n : Int)) = false := by simp
    clear HT hn hm
    go_enter Tryz.func14, Tryz.ntmps14
    go_wp2
    clear x0 xl
    generalize (w.alloc (.cells #[.slice SA n c, .int .i64 idle, .int .i64 price] 27)) = wo at *
    go_loopw [5] (fun i wr => ∃ k : Nat, k ≤ n ∧ i = .int .i64 (k : Int) ∧ scan (chErr sl ch) n 0 = scan (chErr sl ch) n k ∧ Below wo.heap.size wo wr) (fun i _ => n - (intOf i).toNat)
    case atStart => exact ⟨0, Nat.zero_le _, rfl, rfl, pr⟩
    case round =>
      obtain ⟨k, hk, rfl, hf, hq⟩ := hrel
      have HQ := Lib.hid (pt HB0.out hq)
      have HQo := Lib.hid hq
      have RK := Lib.hid (R0.out.past hq)
      have x0 := RK.out.cellAt 0 rfl
      have xl := RK.out.lt
      clear hq
      by_cases hlt : k < n
      · have hk' : k < sl.length := by rw [HN.out]; exact hlt
        have hk2 : k < ch.length := by rw [HM.out]; exact hlt
        obtain ⟨b0, off0, rfl, hb0, hct0⟩ := (HC.out.below (HQ.out.mono hB)).at_ (k := k) hk2
        have e0 := hct0 k hk2
        obtain ⟨b1, off1, rfl, hb1, hct1⟩ := (HR.out.below (HQ.out.mono hB)).at_ hk'
        obtain ⟨A2, c2, e1, _, _⟩ := hct1 k hk'
        have hln := HS1.out _ (getD_mem' (l := sl) (k := k) hk')
        have hd : sl.getD k default = sl.getD k [] := rfl
        rw [hd] at hln
        have HS := Lib.hid (hf.trans (scan_step hlt))
        have HFk := Lib.hid (show chErr sl ch k = if withinB (ch.getD k 0) 0 (((sl.getD k []).length : Int) - 1) = true then 0 else 6 from rfl)
        have hb0w : b0 < wr.heap.size := Nat.lt_of_lt_of_le (Nat.lt_of_lt_of_le hb0 hB) HQ.out.size
        have hb1w : b1 < wr.heap.size := Nat.lt_of_lt_of_le (Nat.lt_of_lt_of_le hb1 hB) HQ.out.size
        have k0 : (0 : Int) ≤ (k : Int) := by omega
        have k1 : (k : Int) < (n : Int) := by omega
        clear hct0 hct1 hf hd
        generalize ch.getD k 0 = y at *
        generalize (sl.getD k []).length = ln at *
        have wl : IntKind.i64.wrap ((ln : Int) - 1) = (ln : Int) - 1 := IntWalk.i64_in _ (by omega)
        generalize chErr sl ch k = e at *
        cases hw : withinB y 0 ((ln : Int) - 1)
        · have HRs := Lib.hid (show E = 6 by
            have h2 : e = 6 := by rw [HFk.out, hw, if_neg (by decide)]
            rw [HX.out, HS.out, h2, if_neg (by decide)])
          go_wp2
          refine region_below 12 follows_mixed (by kernel_rfl) ?_
          intro C hC
          simp only [List.take_succ_cons, List.take_zero, List.drop_succ_cons, List.drop_zero]
          repeat (first
            | ((with_reducible refine quiet_plain rfl (fun K hK => ?_)); (focus (apply quiet_val; (focus (intro w' hw; obtain ⟨hcq, hfq⟩ := bcell ((hC.out _).1 hw); go_simp; (first | done | rfl | (with_reducible exact call_same hw (refWithin_any _ _ _ _))))); (simp only [Act.put, List.setIfInBounds_toArray, List.set_cons_succ, List.set_cons_zero]); (with_reducible refine hK _ ?_); clear hK K)))
            | ((with_reducible refine quiet_skip ?_ ?_); (focus (first | (simp [Region.wanted, yielded]; done) | (simp [Region.wanted, yielded, undef]; done))); simp only [Act.put, List.setIfInBounds_toArray, List.set_cons_succ, List.set_cons_zero])
            | ((with_reducible refine quiet_go ?_ (fun K hK => ?_)); (focus (first | (simp [Region.wanted, yielded]; done) | (simp [Region.wanted, yielded, undef]; done))); (focus (apply quiet_val; (focus (intro w' hw; obtain ⟨hcq, hfq⟩ := bcell ((hC.out _).1 hw); go_simp; (first | done | rfl | (with_reducible exact call_same hw (refWithin_any _ _ _ _))))); (simp only [Act.put, List.setIfInBounds_toArray, List.set_cons_succ, List.set_cons_zero]); (with_reducible refine hK _ ?_); clear hK K))))
          refine wpQuiet_nil ?_
          intro w1 hb1
          replace hb1 := (hC.out _).1 hb1
          clear hC C
          obtain ⟨hc1, hf1⟩ := bcell hb1
          have HAc := Lib.hid (pt HQ.out hb1)
          clear hb1 hc1 hf1
          go_wp2
          go_ret
          exact ⟨ret_int HRs.out.symm, HAc.out⟩
        · have HS2 := Lib.hid (show scan (chErr sl ch) n 0 = scan (chErr sl ch) n (k + 1) by
            have h2 : e = 0 := by rw [HFk.out, hw, if_pos rfl]
            rw [HS.out, h2, if_pos rfl])
          go_wp2
          refine region_below 12 follows_mixed (by kernel_rfl) ?_
          intro C hC
          simp only [List.take_succ_cons, List.take_zero, List.drop_succ_cons, List.drop_zero]
          repeat (first
            | ((with_reducible refine quiet_plain rfl (fun K hK => ?_)); (focus (apply quiet_val; (focus (intro w' hw; obtain ⟨hcq, hfq⟩ := bcell ((hC.out _).1 hw); go_simp; (first | done | rfl | (with_reducible exact call_same hw (refWithin_any _ _ _ _))))); (simp only [Act.put, List.setIfInBounds_toArray, List.set_cons_succ, List.set_cons_zero]); (with_reducible refine hK _ ?_); clear hK K)))
            | ((with_reducible refine quiet_skip ?_ ?_); (focus (first | (simp [Region.wanted, yielded]; done) | (simp [Region.wanted, yielded, undef]; done))); simp only [Act.put, List.setIfInBounds_toArray, List.set_cons_succ, List.set_cons_zero])
            | ((with_reducible refine quiet_go ?_ (fun K hK => ?_)); (focus (first | (simp [Region.wanted, yielded]; done) | (simp [Region.wanted, yielded, undef]; done))); (focus (apply quiet_val; (focus (intro w' hw; obtain ⟨hcq, hfq⟩ := bcell ((hC.out _).1 hw); go_simp; (first | done | rfl | (with_reducible exact call_same hw (refWithin_any _ _ _ _))))); (simp only [Act.put, List.setIfInBounds_toArray, List.set_cons_succ, List.set_cons_zero]); (with_reducible refine hK _ ?_); clear hK K))))
          refine wpQuiet_nil ?_
          intro w1 hb1
          replace hb1 := (hC.out _).1 hb1
          clear hC C
          obtain ⟨hc1, hf1⟩ := bcell hb1
          have HAc := Lib.hid (pt HQo.out hb1)
          clear hb1 hc1 hf1
          go_wp2
          go_roundw
          case rel => exact ⟨k + 1, by omega, by go_num, HS2.out, HAc.out⟩
          case measure => simp [intOf]; omega
      · have HRs := Lib.hid (show E = 0 by rw [HX.out, hf, scan_end (by omega)])
        clear hf
        go_wp2
        go_ret
        exact ⟨ret_int HRs.out.symm, HQ.out⟩
  · have HX := Lib.hid (show E = 10 by rw [HT.out, if_neg (by rw [hm, hn]; exact hmn)])
    have z1 : ((m : Int) == (n : Int)) = false := beq_eq_false_iff_ne.2 (by omega)
    have z2 : ((m : Int) != (n : Int)) = true := bne_iff_ne.2 (by omega)
    clear HT hn hm
    go_enter Tryz.func14, Tryz.ntmps14
    go_wp2
    go_ret
    exact ⟨ret_int HX.out.symm, HB0.out⟩

end Go.Proofs.YtnfbdkdjoekifaaGreatDoor
end

section
namespace Go.Proofs.YtnfbdkdjoekifaaGreatDoor
open Go.RowKit

set_option maxRecDepth 100000 in
set_option maxHeartbeats 4000000 in
theorem refPartCost_any (p : DPart) (A : Option Addr) (n c : Nat) (idle price : Int) (w : World) (h1 : 0 ≤ idle ∧ idle ≤ 1000) (h2 : 0 ≤ price ∧ price ≤ 1000) (hp : PartOk p) :
    Calls Tryz.prog 41 #[.agg #[.slice A n c, .int .i64 idle, .int .i64 price], .agg #[.string p.name, .int .i64 p.price, .int .i64 (valP p 0).1, .int .i64 (valP p 0).2, .int .i64 (valP p 1).1, .int .i64 (valP p 1).2, .int .i64 (valP p 2).1, .int .i64 (valP p 2).2, .int .i64 (valP p 3).1, .int .i64 (valP p 3).2, .int .i64 (valP p 4).1, .int .i64 (valP p 4).2, .int .i64 (valP p 5).1, .int .i64 (valP p 5).2]] w fun e w' => e = .returned (.int .i64 (partC idle price p)) ∧ Below w.heap.size w w' := by
  have HP := Lib.hid (show partC idle price p = p.price + idle * (valP p 2).2 + price * (valP p 3).2 from rfl)
  generalize partC idle price p = R at *
  have hq1 := hp.2.1
  have hq2 := hp.2.2 2
  have hq3 := hp.2.2 3
  clear hp
  generalize p.name = x0 at *
  generalize p.price = x1 at *
  generalize (valP p 0).1 = x2 at *
  generalize (valP p 0).2 = x3 at *
  generalize (valP p 1).1 = x4 at *
  generalize (valP p 1).2 = x5 at *
  generalize (valP p 2).1 = x6 at *
  generalize (valP p 2).2 = x7 at *
  generalize (valP p 3).1 = x8 at *
  generalize (valP p 3).2 = x9 at *
  generalize (valP p 4).1 = x10 at *
  generalize (valP p 4).2 = x11 at *
  generalize (valP p 5).1 = x12 at *
  generalize (valP p 5).2 = x13 at *
  have m1 := Int.mul_le_mul h1.2 (show x7 ≤ 1000000 by omega) (by omega) (by decide)
  have m2 := Int.mul_le_mul h2.2 (show x9 ≤ 1000000 by omega) (by omega) (by decide)
  have m3 := Int.mul_nonneg h1.1 (show 0 ≤ x7 by omega)
  have m4 := Int.mul_nonneg h2.1 (show 0 ≤ x9 by omega)
  have w1 : wrap64 (idle * x7) = idle * x7 := w64 (by omega)
  have w2 : wrap64 (price * x9) = price * x9 := w64 (by omega)
  have w3 : wrap64 (x1 + idle * x7) = x1 + idle * x7 := w64 (by omega)
  have w4 : wrap64 (x1 + idle * x7 + price * x9) = x1 + idle * x7 + price * x9 := w64 (by omega)
  clear m1 m2 m3 m4 hq1 hq2 hq3
  go_enter Tryz.func41, Tryz.ntmps41
  go_wp2
  go_ret
  exact ⟨ret_int (w4.trans HP.out.symm), pa (pa pr)⟩

set_option maxRecDepth 100000 in
set_option maxHeartbeats 4000000 in
theorem refCostOf_any (B : Nat) (sl : List (List DPart)) (SA : Option Addr) (n c : Nat) (idle price : Int) (ch : List Int) (CA : Option Addr) (cc : Nat) (w : World) (hr : SlotsIn B w SA sl) (hc : IntsIn B w CA ch) (hB : B ≤ w.heap.size) (hn : sl.length = n) (hs : SlotsOk sl) (hch : ChoiceOk sl ch) (h1 : 0 ≤ idle ∧ idle ≤ 1000) (h2 : 0 ≤ price ∧ price ≤ 1000) :
    Calls Tryz.prog 16 #[.agg #[.slice SA n c, .int .i64 idle, .int .i64 price], .slice CA n cc] w fun e w' => e = .returned (.int .i64 (costC idle price sl ch)) ∧ Below w.heap.size w w' := by
  have HR := Lib.hid hr
  have HC := Lib.hid hc
  have HN := Lib.hid hn
  have HM := Lib.hid (show ch.length = n by rw [hch.1]; exact hn)
  have HSl := Lib.hid hs
  have HCh := Lib.hid hch
  have hn5 : n ≤ 5 := by rw [← hn]; exact hs.1.2
  have HF := Lib.hid (show costC idle price sl ch = costF idle price sl ch n by unfold costC; rw [HM.out])
  have HBd := Lib.hid (fun k (hk : k ≤ n) => cost_bd hs hch h1 h2 (k := k) (by rw [hn]; exact hk))
  clear hr hc hn hs hch
  generalize costC idle price sl ch = R at *
  go_enter Tryz.func16, Tryz.ntmps16
  go_wp2
  have Q0 := Lib.hid (show Blk (w.alloc (.cells #[.slice SA n c, .int .i64 idle, .int .i64 price] 27)) w.heap.size 27 #[.slice SA n c, .int .i64 idle, .int .i64 price] from Blk.newAt rfl)
  have HQ0 := Lib.hid (show Below w.heap.size w (w.alloc (.cells #[.slice SA n c, .int .i64 idle, .int .i64 price] 27)) from pa pr)
  generalize w.alloc (.cells #[.slice SA n c, .int .i64 idle, .int .i64 price] 27) = v0 at *
  go_loopw [5, 6] (fun sv iv wr => ∃ k : Nat, iv = .int .i64 (k : Int) ∧ k ≤ n ∧ sv = .int .i64 (costF idle price sl ch k) ∧ Blk wr w.heap.size 27 #[.slice SA n c, .int .i64 idle, .int .i64 price] ∧ Below w.heap.size w wr) (fun _ iv _ => n - (intOf iv).toNat)
  case atStart => exact ⟨0, rfl, Nat.zero_le _, rfl, Q0.out, HQ0.out⟩
  case round =>
    clear Q0 HQ0
    obtain ⟨k, rfl, hk, rfl, q0, hq⟩ := hrel
    have HQ := Lib.hid hq
    have Q0 := Lib.hid q0
    have x0 := q0.cellAt 0 rfl
    have x1 := q0.cellAt 1 rfl
    have x2 := q0.cellAt 2 rfl
    have xl := q0.lt
    clear q0
    by_cases hlt : k < n
    · have hst : costF idle price sl ch (k + 1) = costF idle price sl ch k + partC idle price (partAt sl k (ch.getD k 0)) := rfl
      have hbd1 := HBd.out k (by omega)
      have hbd2 := HBd.out (k + 1) (by omega)
      have hk' : k < sl.length := by rw [HN.out]; exact hlt
      obtain ⟨_, _, hpo⟩ := part_mem HSl.out HCh.out hk'
      have hcb := HCh.out.2 k hk'
      obtain ⟨b0, off0, rfl, hb0, hct0⟩ := (HC.out.below (HQ.out.mono hB)).at_ (k := k) (by rw [HM.out]; exact hlt)
      have e0 := hct0 k (by rw [HM.out]; exact hlt)
      obtain ⟨b1, off1, rfl, hb1, hct1⟩ := (HR.out.below (HQ.out.mono hB)).at_ hk'
      obtain ⟨A2, c2, e1, hts, hcap⟩ := hct1 k hk'
      unfold partAt at *
      generalize ch.getD k 0 = y at *
      obtain ⟨yn, rfl⟩ : ∃ yn : Nat, y = (yn : Int) := ⟨y.toNat, by omega⟩
      have hyl : yn < (sl.getD k []).length := by omega
      obtain ⟨b2, off2, rfl, hb2, hct2⟩ := parts_at hts hyl
      obtain ⟨u0, u1, u2, u3, u4, u5, u6, u7, u8, u9, u10, u11, u12, u13⟩ := part_cells (hct2 yn hyl)
      rw [Int.toNat_natCast] at *
      generalize (sl.getD k []).length = ln at *
      generalize (sl.getD k []).getD yn default = prt at *
      have hb0w : b0 < wr.heap.size := Nat.lt_of_lt_of_le (Nat.lt_of_lt_of_le hb0 hB) HQ.out.size
      have hb1w : b1 < wr.heap.size := Nat.lt_of_lt_of_le (Nat.lt_of_lt_of_le hb1 hB) HQ.out.size
      have hb2w : b2 < wr.heap.size := Nat.lt_of_lt_of_le (Nat.lt_of_lt_of_le hb2 hB) HQ.out.size
      have y0 : (0 : Int) ≤ (yn : Int) := by omega
      have y1 : (yn : Int) < (ln : Int) := by omega
      have k0 : (0 : Int) ≤ (k : Int) := by omega
      have k1 : (k : Int) < (n : Int) := by omega
      have HP := Lib.hid (fun W => refPartCost_any prt (some ⟨b1, off1, none⟩) n c idle price W h1 h2 hpo)
      have HSt := Lib.hid hst
      rw [hst] at hbd2
      generalize costF idle price sl ch k = s at *
      generalize partC idle price prt = pc at *
      have bd1 : 0 ≤ s ∧ s ≤ 100000000000 := by omega
      have bd2 : 0 ≤ s + pc ∧ s + pc ≤ 100000000000 := by omega
      clear hst hct0 hct1 hct2 hts hcap hcb hpo hbd1 hbd2
      go_wp2
      refine region_below 14 follows_mixed (by kernel_rfl) ?_
      intro C hC
      simp only [List.take_succ_cons, List.take_zero, List.drop_succ_cons, List.drop_zero]
      repeat (first
        | ((with_reducible refine quiet_plain rfl (fun K hK => ?_)); (focus (apply quiet_val; (focus (intro w' hw; obtain ⟨hcq, hfq⟩ := bcell ((hC.out _).1 hw); go_simp; (first | done | rfl | (with_reducible exact call_below hC hw (HP.out _))))); (simp only [Act.put, List.setIfInBounds_toArray, List.set_cons_succ, List.set_cons_zero]); (with_reducible refine hK _ ?_); clear hK K)))
        | ((with_reducible refine quiet_skip ?_ ?_); (focus (first | (simp [Region.wanted, yielded]; done) | (simp [Region.wanted, yielded, undef]; done))); simp only [Act.put, List.setIfInBounds_toArray, List.set_cons_succ, List.set_cons_zero])
        | ((with_reducible refine quiet_go ?_ (fun K hK => ?_)); (focus (first | (simp [Region.wanted, yielded]; done) | (simp [Region.wanted, yielded, undef]; done))); (focus (apply quiet_val; (focus (intro w' hw; obtain ⟨hcq, hfq⟩ := bcell ((hC.out _).1 hw); go_simp; (first | done | rfl | (with_reducible exact call_below hC hw (HP.out _))))); (simp only [Act.put, List.setIfInBounds_toArray, List.set_cons_succ, List.set_cons_zero]); (with_reducible refine hK _ ?_); clear hK K))))
      refine wpQuiet_nil ?_
      intro w1 hb1
      replace hb1 := (hC.out _).1 hb1
      clear hC C
      obtain ⟨hc1, hf1⟩ := bcell hb1
      go_wp2
      go_roundw
      case rel => exact ⟨k + 1, by go_num, by omega, by rw [HSt.out], Q0.out.past hb1, pt HQ.out hb1⟩
      case measure => simp [intOf]; omega
    · have hkn : k = n := by omega
      subst hkn
      go_wp2
      go_ret
      exact ⟨ret_int HF.out.symm, HQ.out⟩

end Go.Proofs.YtnfbdkdjoekifaaGreatDoor
end
