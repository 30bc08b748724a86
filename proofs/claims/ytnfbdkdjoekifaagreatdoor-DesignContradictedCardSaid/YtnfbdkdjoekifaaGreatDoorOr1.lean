/- DesignForAll: plain facts; base.Mod; the error of a specification and a stock. Printed by a program (gen_d9for.py). -/
import Derived.Test.YtnfbdkdjoekifaaGreatDoorOn1
import Derived.Test.YtnfbdkdjoekifaaGreatDoorOn2

section
namespace Go.Proofs.YtnfbdkdjoekifaaGreatDoor
open Go.RowKit

/-- Numbers as cells. -/
def sixC (L : List Int) : Array Value := (L.map (Value.int .i64)).toArray
/-- Six numbers in their ranges. -/
def Between (v : Int → Int × Int) (L : List Int) : Prop := L.length = 6 ∧ ∀ q : Nat, q < 6 → (v (q : Int)).1 ≤ L.getD q 0 ∧ L.getD q 0 ≤ (v (q : Int)).2
theorem Between.zero (sl : List (List DPart)) (ch : List Int) : Between (valsF sl ch 0) [0, 0, 0, 0, 0, 0] := ⟨rfl, fun q hq => by
  rcases (show q = 0 ∨ q = 1 ∨ q = 2 ∨ q = 3 ∨ q = 4 ∨ q = 5 by omega) with rfl | rfl | rfl | rfl | rfl | rfl <;> exact ⟨Int.le_refl _, Int.le_refl _⟩⟩
theorem Between.stop {sl : List (List DPart)} {ch : List Int} {k : Nat} {L : List Int} (h : Between (mixV sl ch k 6) L) : Between (valsF sl ch (k + 1)) L := ⟨h.1, fun q hq => by
  have e : mixV sl ch k 6 (q : Int) = valsF sl ch (k + 1) (q : Int) := if_pos (by omega)
  rw [← e]
  exact h.2 q hq⟩
theorem Between.set {sl : List (List DPart)} {ch : List Int} {k q : Nat} {L : List Int} {x : Int} (h : Between (mixV sl ch k q) L) (hq : q < 6) (h1 : (valP (partAt sl k (ch.getD k 0)) (q : Int)).1 ≤ x) (h2 : x ≤ (valP (partAt sl k (ch.getD k 0)) (q : Int)).2) : Between (mixV sl ch k (q + 1)) (L.set q (L.getD q 0 + x)) := by
  refine ⟨by rw [List.length_set]; exact h.1, fun i hi => ?_⟩
  by_cases hiq : i = q
  · subst hiq
    have h3 := h.2 i hi
    rw [mix_at] at h3
    have e : mixV sl ch k (i + 1) (i : Int) = valsF sl ch (k + 1) (i : Int) := if_pos (by omega)
    have e2 : valsF sl ch (k + 1) (i : Int) = ((valsF sl ch k (i : Int)).1 + (valP (partAt sl k (ch.getD k 0)) (i : Int)).1, (valsF sl ch k (i : Int)).2 + (valP (partAt sl k (ch.getD k 0)) (i : Int)).2) := rfl
    have e3 : (L.set i (L.getD i 0 + x)).getD i 0 = L.getD i 0 + x := by
      have hl := h.1
      simp [List.getD, show i < L.length by omega]
    rw [e, e2, e3]
    dsimp only
    omega
  · have h3 := h.2 i hi
    have e : mixV sl ch k (q + 1) (i : Int) = mixV sl ch k q (i : Int) := by
      unfold mixV
      by_cases h4 : (i : Int) < (q : Int)
      · rw [if_pos h4, if_pos (by omega)]
      · rw [if_neg h4, if_neg (by omega)]
    have e3 : (L.set q (L.getD q 0 + x)).getD i 0 = L.getD i 0 := by simp [List.getD, List.getElem?_set_ne (Ne.symm hiq)]
    rw [e, e3]
    exact h3
theorem vals_nat (sl : List (List DPart)) (ch : List Int) (q : Int) : ∀ k : Nat, valsF sl ch k q = valsF sl ch k ((q.toNat : Nat) : Int)
  | 0 => rfl
  | k + 1 => by
    have e : ∀ p : DPart, valP p q = valP p ((q.toNat : Nat) : Int) := fun p => by unfold valP; rw [Int.toNat_natCast]
    show ((valsF sl ch k q).1 + _, (valsF sl ch k q).2 + _) = ((valsF sl ch k ((q.toNat : Nat) : Int)).1 + _, (valsF sl ch k ((q.toNat : Nat) : Int)).2 + _)
    rw [vals_nat sl ch q k, e]
theorem vals_off {sl : List (List DPart)} {ch : List Int} (hs : SlotsOk sl) (hc : ChoiceOk sl ch) {q : Nat} (hq : 6 ≤ q) : ∀ {k : Nat}, k ≤ sl.length → valsF sl ch k (q : Int) = (0, 0)
  | 0, _ => rfl
  | k + 1, hk => by
    obtain ⟨_, _, hp⟩ := part_mem hs hc (show k < sl.length by omega)
    have e : valP (partAt sl k (ch.getD k 0)) (q : Int) = (0, 0) := by
      unfold valP
      rw [Int.toNat_natCast, List.getD_eq_getElem?_getD, List.getElem?_eq_none (by rw [hp.1]; exact hq)]
      rfl
    show ((valsF sl ch k (q : Int)).1 + _, (valsF sl ch k (q : Int)).2 + _) = (0, 0)
    rw [vals_off hs hc hq (show k ≤ sl.length by omega), e]
    rfl
theorem Between.all {sl : List (List DPart)} {ch : List Int} (hs : SlotsOk sl) (hc : ChoiceOk sl ch) {L : List Int} (h : Between (valsF sl ch sl.length) L) (q : Int) : (valsF sl ch sl.length q).1 ≤ L.getD q.toNat 0 ∧ L.getD q.toNat 0 ≤ (valsF sl ch sl.length q).2 := by
  rw [vals_nat]
  by_cases hq : q.toNat < 6
  · exact h.2 _ hq
  · rw [vals_off hs hc (by omega) (Nat.le_refl _)]
    have e : L.getD q.toNat 0 = 0 := by
      have hl := h.1
      rw [List.getD_eq_getElem?_getD, List.getElem?_eq_none (by omega)]
      rfl
    rw [e]
    exact ⟨Int.le_refl _, Int.le_refl _⟩
/-- What is known when so many differences were looked at. -/
def AllSt (M : Nat → Int × Int) (k : Nat) (b : Bool) : Prop := (b = true → ∀ j, j < k → ¬ (M j).2 < 0) ∧ (b = false → ∃ j, j < k ∧ (M j).1 < 0)
theorem AllSt.zero (M : Nat → Int × Int) : AllSt M 0 true := ⟨fun _ j hj => by omega, fun h => by cases h⟩
theorem AllSt.step {M : Nat → Int × Int} {k : Nat} {b : Bool} {n : Int} (h : AllSt M k b) (h1 : (M k).1 ≤ n) (h2 : n ≤ (M k).2) : AllSt M (k + 1) (b && decide (0 ≤ n)) := by
  refine ⟨fun hb j hj => ?_, fun hb => ?_⟩
  · simp only [Bool.and_eq_true, decide_eq_true_eq] at hb
    rcases Nat.lt_or_ge j k with hjk | hjk
    · exact h.1 hb.1 j hjk
    · obtain rfl : j = k := by omega
      omega
  · cases b
    · obtain ⟨j, hj, hm⟩ := h.2 rfl
      exact ⟨j, by omega, hm⟩
    · rw [Bool.true_and] at hb
      exact ⟨k, by omega, by have := of_decide_eq_false hb; omega⟩
theorem AllSt.fin {rs : List DReq} {sl : List (List DPart)} {ch : List Int} {b : Bool} (h : AllSt (fun j => marginV (rs.getD j default) (valsF sl ch ch.length)) rs.length b) :
    (b = true ∧ (meetsV rs sl ch = 1 ∨ meetsV rs sl ch = 2)) ∨ (b = false ∧ (meetsV rs sl ch = 0 ∨ meetsV rs sl ch = 1)) := by
  have hr : 0 ≤ meetsV rs sl ch ∧ meetsV rs sl ch ≤ 2 := meetsF_range (by decide)
  cases b
  · right
    refine ⟨rfl, ?_⟩
    obtain ⟨j, hj, hm⟩ := h.2 rfl
    dsimp only at hm
    have h2 : meetsV rs sl ch ≠ 2 := fun e => by
      have h3 := (meets_yes.1 e _ (getD_mem' hj)).1
      omega
    omega
  · left
    refine ⟨rfl, ?_⟩
    have h2 : meetsV rs sl ch ≠ 0 := fun e => by
      obtain ⟨m, hm, h3⟩ := meetsF_no (show (2 : Int) ≠ 0 by decide) e
      unfold marginsV at hm
      obtain ⟨r, hr, rfl⟩ := List.mem_map.1 hm
      obtain ⟨j, hj, he⟩ := mem_getD hr
      refine h.1 rfl j hj ?_
      dsimp only
      rw [he]
      exact h3
    omega

set_option maxRecDepth 100000 in
set_option maxHeartbeats 4000000 in
theorem bothErr_any (B : Nat) (rs : List DReq) (RA : Option Addr) (rn rc : Nat) (sl : List (List DPart)) (A : Option Addr) (n c : Nat) (idle price : Int) (w : World) (hrr : ReqsIn B w RA rs) (hr : SlotsIn B w A sl) (hB : B ≤ w.heap.size) (hrn : rs.length = rn) (hn : sl.length = n) (hrm : rn ≤ 1000) (f2 : ∀ r ∈ rs, r.ts.length ≤ 1000) (f4 : SmallSlots sl) :
    Calls Tryz.prog 8 #[.agg #[.slice RA rn rc], .agg #[.slice A n c, .int .i64 idle, .int .i64 price]] w fun e w' => e = .returned (.int .i64 (openE rs idle price sl)) ∧ Below w.heap.size w w' := by
  have HRs := Lib.hid (fun W (hW : Below w.heap.size w W) => refStockErr_any B sl A n c idle price W (hr.below (hW.mono hB)) (Nat.le_trans hB hW.size) hn (fun _ => f4))
  have HRp := Lib.hid (fun W (hW : Below w.heap.size w W) => refSpecErr_any B rs RA rn rc W (hrr.below (hW.mono hB)) (Nat.le_trans hB hW.size) hrn hrm f2)
  have HE := Lib.hid (show openE rs idle price sl = if (specE rs).2 = 0 then (stockE idle price sl).2 else (specE rs).2 from by
    unfold openE
    by_cases h : (specE rs).2 = 0
    · rw [if_pos h, h]
      unfold firstV
      rw [if_pos rfl]
      unfold firstV
      by_cases h2 : (stockE idle price sl).2 = 0
      · rw [if_pos h2, h2]; rfl
      · rw [if_neg h2]
    · rw [if_neg h]
      unfold firstV
      rw [if_neg h])
  clear hrr hr hrn hn f2 f4
  generalize openE rs idle price sl = E at *
  generalize (specE rs).2 = e1 at *
  generalize (stockE idle price sl).2 = e2 at *
  have HB0 := Lib.hid (show Below w.heap.size w ((w.alloc (.cells #[.slice RA rn rc] 24)).alloc (.cells #[.slice A n c, .int .i64 idle, .int .i64 price] 27)) from pa (pa pr))
  have K0 := Lib.hid (show Blk ((w.alloc (.cells #[.slice RA rn rc] 24)).alloc (.cells #[.slice A n c, .int .i64 idle, .int .i64 price] 27)) (w.heap.size + 1) 27 #[.slice A n c, .int .i64 idle, .int .i64 price] from Blk.newAt (by simp))
  by_cases h0 : e1 = 0
  · have HX := Lib.hid (show E = e2 by rw [HE.out, if_pos h0])
    have z1 : (e1 != 0) = false := by simp [h0]
    clear h0 HE
    go_enter Tryz.func8, Tryz.ntmps8
    go_wp2_with (first
      | (go_at_call 31; refine (HRp.out _ HB0.out).mono ?_; rintro e w1 ⟨rfl, hb⟩; have HB1 := Lib.hid (pt HB0.out hb); have y0 := (K0.out.past hb).cellAt 0 rfl; have y1 := (K0.out.past hb).cellAt 1 rfl; have y2 := (K0.out.past hb).cellAt 2 rfl; have yl := (K0.out.past hb).lt)
      | (go_at_call 32; refine (HRs.out _ HB1.out).mono ?_; rintro e w2 ⟨rfl, hb2⟩; have HB2 := Lib.hid (pt HB1.out hb2)))
    go_ret
    exact ⟨ret_int HX.out.symm, HB2.out⟩
  · have HX := Lib.hid (show E = e1 by rw [HE.out, if_neg h0])
    have z1 : (e1 != 0) = true := by simpa using h0
    clear h0 HE
    go_enter Tryz.func8, Tryz.ntmps8
    go_wp2_with (go_at_call 31; refine (HRp.out _ HB0.out).mono ?_; rintro e w1 ⟨rfl, hb⟩; have HB1 := Lib.hid (pt HB0.out hb))
    go_ret
    exact ⟨ret_int HX.out.symm, HB1.out⟩

end Go.Proofs.YtnfbdkdjoekifaaGreatDoor
end
