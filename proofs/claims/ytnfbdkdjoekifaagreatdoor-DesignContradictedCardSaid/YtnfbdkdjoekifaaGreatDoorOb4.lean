/- Contracts: the values and the cost of a choice (package design). Printed by a program (gen_d2vals.py). -/
import Derived.Test.YtnfbdkdjoekifaaGreatDoorOb3

section
namespace Go.Proofs.YtnfbdkdjoekifaaGreatDoor
open Go.RowKit

/-- Values of which the first q are already those of the next slot. -/
def mixV (sl : List (List DPart)) (ch : List Int) (k q : Nat) : Int → Int × Int := fun x => if x < (q : Int) then valsF sl ch (k + 1) x else valsF sl ch k x
theorem mix_at (sl : List (List DPart)) (ch : List Int) (k q : Nat) : mixV sl ch k q (q : Int) = valsF sl ch k (q : Int) := if_neg (Int.lt_irrefl _)
theorem mix_start (sl : List (List DPart)) (ch : List Int) (k : Nat) : valsC (mixV sl ch k 0) = valsC (valsF sl ch k) := rfl
theorem mix_end (sl : List (List DPart)) (ch : List Int) (k : Nat) : valsC (mixV sl ch k 6) = valsC (valsF sl ch (k + 1)) := rfl
theorem mix_store (sl : List (List DPart)) (ch : List Int) (k : Nat) : ∀ {q : Nat}, q < 6 →
    valsC (mixV sl ch k (q + 1)) = ((valsC (mixV sl ch k q)).toList.take (q * 2) ++ (#[.int .i64 (valsF sl ch (k + 1) (q : Int)).1, .int .i64 (valsF sl ch (k + 1) (q : Int)).2] : Array Value).toList ++ (valsC (mixV sl ch k q)).toList.drop (q * 2 + (#[.int .i64 (valsF sl ch (k + 1) (q : Int)).1, .int .i64 (valsF sl ch (k + 1) (q : Int)).2] : Array Value).size)).toArray
  | 0, _ => rfl
  | 1, _ => rfl
  | 2, _ => rfl
  | 3, _ => rfl
  | 4, _ => rfl
  | 5, _ => rfl
  | q + 6, h => absurd h (by omega)
theorem partC_bd {p : DPart} {idle price : Int} (h1 : 0 ≤ idle ∧ idle ≤ 1000) (h2 : 0 ≤ price ∧ price ≤ 1000) (hp : PartOk p) : 0 ≤ partC idle price p ∧ partC idle price p ≤ 2001000000 := by
  have hq1 := hp.2.1
  have hq2 := hp.2.2 2
  have hq3 := hp.2.2 3
  unfold partC
  generalize (valP p 2).2 = x at *
  generalize (valP p 3).2 = y at *
  have m1 := Int.mul_le_mul h1.2 (show x ≤ 1000000 by omega) (by omega) (by decide)
  have m2 := Int.mul_le_mul h2.2 (show y ≤ 1000000 by omega) (by omega) (by decide)
  have m3 := Int.mul_nonneg h1.1 (show 0 ≤ x by omega)
  have m4 := Int.mul_nonneg h2.1 (show 0 ≤ y by omega)
  omega
theorem cost_bd {sl : List (List DPart)} {ch : List Int} {idle price : Int} (hs : SlotsOk sl) (hch : ChoiceOk sl ch) (h1 : 0 ≤ idle ∧ idle ≤ 1000) (h2 : 0 ≤ price ∧ price ≤ 1000) : ∀ {k : Nat}, k ≤ sl.length → 0 ≤ costF idle price sl ch k ∧ costF idle price sl ch k ≤ k * 2001000000
  | 0, _ => by simp [costF]
  | k + 1, hk => by
    have ih := cost_bd hs hch h1 h2 (k := k) (by omega)
    have h3 := partC_bd h1 h2 (part_mem hs hch (i := k) (by omega)).2.2
    rw [costF]
    push_cast
    omega
theorem valsC_size (v : Int → Int × Int) : (valsC v).size = 12 := rfl

set_option maxRecDepth 100000 in
set_option maxHeartbeats 4000000 in
theorem cost_any (B : Nat) (sl : List (List DPart)) (SA : Option Addr) (n c : Nat) (idle price : Int) (ch : List Int) (CA : Option Addr) (cc : Nat) (w : World) (hr : SlotsIn B w SA sl) (hc : IntsIn B w CA ch) (hB : B ≤ w.heap.size) (hn : sl.length = n) (hs : SlotsOk sl) (hch : ChoiceOk sl ch) (h1 : 0 ≤ idle ∧ idle ≤ 1000) (h2 : 0 ≤ price ∧ price ≤ 1000) :
    Calls Tryz.prog 35 #[.agg #[.slice SA n c, .int .i64 idle, .int .i64 price], .slice CA n cc] w fun e w' => e = .returned (.int .i64 (costC idle price sl ch)) ∧ Below w.heap.size w w' := by
  have HR := Lib.hid hr
  have HC := Lib.hid hc
  have HN := Lib.hid hn
  have HM := Lib.hid (show ch.length = n by rw [hch.1]; exact hn)
  have HSl := Lib.hid hs
  have HCh := Lib.hid hch
  have hn5 : n ≤ 5 := by rw [← hn]; exact hs.1.2
  have HF := Lib.hid (show costC idle price sl ch = costF idle price sl ch n by unfold costC; rw [HM.out])
  have HBd := Lib.hid (fun k (hk : k ≤ n) => cost_bd hs hch h1 h2 (k := k) (by rw [hn]; exact hk))
  clear hr hc hn hs hch
  generalize costC idle price sl ch = R at *
  go_enter Tryz.func35, Tryz.ntmps35
  go_wp2
  have Q0 := Lib.hid (show Blk (w.alloc (.cells #[.slice SA n c, .int .i64 idle, .int .i64 price] 80)) w.heap.size 80 #[.slice SA n c, .int .i64 idle, .int .i64 price] from Blk.newAt rfl)
  have HQ0 := Lib.hid (show Below w.heap.size w (w.alloc (.cells #[.slice SA n c, .int .i64 idle, .int .i64 price] 80)) from pa pr)
  generalize w.alloc (.cells #[.slice SA n c, .int .i64 idle, .int .i64 price] 80) = v0 at *
  go_loopw [5, 10] (fun sv iv wr => ∃ k : Nat, iv = .int .i64 (k : Int) ∧ k ≤ n ∧ sv = .int .i64 (costF idle price sl ch k) ∧ Blk wr w.heap.size 80 #[.slice SA n c, .int .i64 idle, .int .i64 price] ∧ Below w.heap.size w wr) (fun _ iv _ => n - (intOf iv).toNat)
  case atStart => exact ⟨0, rfl, Nat.zero_le _, rfl, Q0.out, HQ0.out⟩
  case round =>
    clear Q0 HQ0
    obtain ⟨k, rfl, hk, rfl, q0, hq⟩ := hrel
    have HQ := Lib.hid hq
    have Q0 := Lib.hid q0
    have x0 := q0.cellAt 0 rfl
    have x1 := q0.cellAt 1 rfl
    have x2 := q0.cellAt 2 rfl
    have xl := q0.lt
    clear q0
    by_cases hlt : k < n
    · have hst : costF idle price sl ch (k + 1) = costF idle price sl ch k + partC idle price (partAt sl k (ch.getD k 0)) := rfl
      have hbd1 := HBd.out k (by omega)
      have hbd2 := HBd.out (k + 1) (by omega)
      have hk' : k < sl.length := by rw [HN.out]; exact hlt
      obtain ⟨_, _, hpo⟩ := part_mem HSl.out HCh.out hk'
      have hcb := HCh.out.2 k hk'
      obtain ⟨b0, off0, rfl, hb0, hct0⟩ := (HC.out.below (HQ.out.mono hB)).at_ (k := k) (by rw [HM.out]; exact hlt)
      have e0 := hct0 k (by rw [HM.out]; exact hlt)
      obtain ⟨b1, off1, rfl, hb1, hct1⟩ := (HR.out.below (HQ.out.mono hB)).at_ hk'
      obtain ⟨A2, c2, e1, hts, hcap⟩ := hct1 k hk'
      unfold partAt at *
      generalize ch.getD k 0 = y at *
      obtain ⟨yn, rfl⟩ : ∃ yn : Nat, y = (yn : Int) := ⟨y.toNat, by omega⟩
      have hyl : yn < (sl.getD k []).length := by omega
      obtain ⟨b2, off2, rfl, hb2, hct2⟩ := parts_at hts hyl
      obtain ⟨u0, u1, u2, u3, u4, u5, u6, u7, u8, u9, u10, u11, u12, u13⟩ := part_cells (hct2 yn hyl)
      rw [Int.toNat_natCast] at *
      generalize (sl.getD k []).length = ln at *
      generalize (sl.getD k []).getD yn default = prt at *
      have hb0w : b0 < wr.heap.size := Nat.lt_of_lt_of_le (Nat.lt_of_lt_of_le hb0 hB) HQ.out.size
      have hb1w : b1 < wr.heap.size := Nat.lt_of_lt_of_le (Nat.lt_of_lt_of_le hb1 hB) HQ.out.size
      have hb2w : b2 < wr.heap.size := Nat.lt_of_lt_of_le (Nat.lt_of_lt_of_le hb2 hB) HQ.out.size
      have y0 : (0 : Int) ≤ (yn : Int) := by omega
      have y1 : (yn : Int) < (ln : Int) := by omega
      have k0 : (0 : Int) ≤ (k : Int) := by omega
      have k1 : (k : Int) < (n : Int) := by omega
      have HP := Lib.hid (fun W => partCost_any prt (some ⟨b1, off1, none⟩) n c idle price W h1 h2 hpo)
      have HSt := Lib.hid hst
      rw [hst] at hbd2
      generalize costF idle price sl ch k = s at *
      generalize partC idle price prt = pc at *
      have bd1 : 0 ≤ s ∧ s ≤ 100000000000 := by omega
      have bd2 : 0 ≤ s + pc ∧ s + pc ≤ 100000000000 := by omega
      clear hst hct0 hct1 hct2 hts hcap hcb hpo hbd1 hbd2
      go_wp2
      refine region_below 13 follows_mixed (by kernel_rfl) ?_
      intro C hC
      simp only [List.take_succ_cons, List.take_zero, List.drop_succ_cons, List.drop_zero]
      repeat (first
        | ((with_reducible refine quiet_plain rfl (fun K hK => ?_)); (focus (apply quiet_val; (focus (intro w' hw; obtain ⟨hcq, hfq⟩ := bcell ((hC.out _).1 hw); go_simp; (first | done | rfl | (with_reducible exact call_below hC hw (HP.out _))))); (simp only [Act.put, List.setIfInBounds_toArray, List.set_cons_succ, List.set_cons_zero]); (with_reducible refine hK _ ?_); clear hK K)))
        | ((with_reducible refine quiet_skip ?_ ?_); (focus (first | (simp [Region.wanted, yielded]; done) | (simp [Region.wanted, yielded, undef]; done))); simp only [Act.put, List.setIfInBounds_toArray, List.set_cons_succ, List.set_cons_zero])
        | ((with_reducible refine quiet_go ?_ (fun K hK => ?_)); (focus (first | (simp [Region.wanted, yielded]; done) | (simp [Region.wanted, yielded, undef]; done))); (focus (apply quiet_val; (focus (intro w' hw; obtain ⟨hcq, hfq⟩ := bcell ((hC.out _).1 hw); go_simp; (first | done | rfl | (with_reducible exact call_below hC hw (HP.out _))))); (simp only [Act.put, List.setIfInBounds_toArray, List.set_cons_succ, List.set_cons_zero]); (with_reducible refine hK _ ?_); clear hK K))))
      refine wpQuiet_nil ?_
      intro w1 hb1
      replace hb1 := (hC.out _).1 hb1
      clear hC C
      obtain ⟨hc1, hf1⟩ := bcell hb1
      go_wp2
      go_roundw
      case rel => exact ⟨k + 1, by go_num, by omega, by rw [HSt.out]; exact congrArg (Value.int .i64) (IntWalk.i64_in _ (by omega)), Q0.out.past hb1, pt HQ.out hb1⟩
      case measure => simp [intOf]; omega
    · have hkn : k = n := by omega
      subst hkn
      go_wp2
      go_ret
      exact ⟨ret_int HF.out.symm, HQ.out⟩

attribute [local go_sem] vals_at
set_option maxRecDepth 100000 in
set_option maxHeartbeats 4000000 in
theorem values_any (B : Nat) (sl : List (List DPart)) (SA : Option Addr) (n c : Nat) (idle price : Int) (ch : List Int) (CA : Option Addr) (cc : Nat) (w : World) (hr : SlotsIn B w SA sl) (hc : IntsIn B w CA ch) (hB : B ≤ w.heap.size) (hn : sl.length = n) (hs : SlotsOk sl) (hch : ChoiceOk sl ch) :
    Calls Tryz.prog 68 #[.agg #[.slice SA n c, .int .i64 idle, .int .i64 price], .slice CA n cc] w fun e w' => e = .returned (valsV (valsF sl ch n)) ∧ Below w.heap.size w w' := by
  have HR := Lib.hid hr
  have HC := Lib.hid hc
  have HN := Lib.hid hn
  have HM := Lib.hid (show ch.length = n by rw [hch.1]; exact hn)
  have HSl := Lib.hid hs
  have HCh := Lib.hid hch
  have hn5 : n ≤ 5 := by rw [← hn]; exact hs.1.2
  have HBd := Lib.hid (fun k (hk : k ≤ n) q => vals_bd hs hch q (k := k) (by rw [hn]; exact hk))
  clear hr hc hn hs hch
  unfold valsV
  go_enter Tryz.func68, Tryz.ntmps68
  go_wp2
  have HS0 := Lib.hid (show Blk (((w.alloc (.cells #[.slice SA n c, .int .i64 idle, .int .i64 price] 80)).alloc (.cells #[.int .i64 0, .int .i64 0, .int .i64 0, .int .i64 0, .int .i64 0, .int .i64 0, .int .i64 0, .int .i64 0, .int .i64 0, .int .i64 0, .int .i64 0, .int .i64 0] 118)).alloc (.cells #[.int .i64 0, .int .i64 0, .int .i64 0, .int .i64 0, .int .i64 0, .int .i64 0, .int .i64 0, .int .i64 0, .int .i64 0, .int .i64 0, .int .i64 0, .int .i64 0] 118)) w.heap.size 80 #[.slice SA n c, .int .i64 idle, .int .i64 price] ∧ Blk (((w.alloc (.cells #[.slice SA n c, .int .i64 idle, .int .i64 price] 80)).alloc (.cells #[.int .i64 0, .int .i64 0, .int .i64 0, .int .i64 0, .int .i64 0, .int .i64 0, .int .i64 0, .int .i64 0, .int .i64 0, .int .i64 0, .int .i64 0, .int .i64 0] 118)).alloc (.cells #[.int .i64 0, .int .i64 0, .int .i64 0, .int .i64 0, .int .i64 0, .int .i64 0, .int .i64 0, .int .i64 0, .int .i64 0, .int .i64 0, .int .i64 0, .int .i64 0] 118)) (w.heap.size + 1 + 1) 118 (valsC (valsF sl ch 0)) ∧ (∃ cs, Blk (((w.alloc (.cells #[.slice SA n c, .int .i64 idle, .int .i64 price] 80)).alloc (.cells #[.int .i64 0, .int .i64 0, .int .i64 0, .int .i64 0, .int .i64 0, .int .i64 0, .int .i64 0, .int .i64 0, .int .i64 0, .int .i64 0, .int .i64 0, .int .i64 0] 118)).alloc (.cells #[.int .i64 0, .int .i64 0, .int .i64 0, .int .i64 0, .int .i64 0, .int .i64 0, .int .i64 0, .int .i64 0, .int .i64 0, .int .i64 0, .int .i64 0, .int .i64 0] 118)) (w.heap.size + 1) 118 cs ∧ cs.size = 12) ∧ Below w.heap.size w (((w.alloc (.cells #[.slice SA n c, .int .i64 idle, .int .i64 price] 80)).alloc (.cells #[.int .i64 0, .int .i64 0, .int .i64 0, .int .i64 0, .int .i64 0, .int .i64 0, .int .i64 0, .int .i64 0, .int .i64 0, .int .i64 0, .int .i64 0, .int .i64 0] 118)).alloc (.cells #[.int .i64 0, .int .i64 0, .int .i64 0, .int .i64 0, .int .i64 0, .int .i64 0, .int .i64 0, .int .i64 0, .int .i64 0, .int .i64 0, .int .i64 0, .int .i64 0] 118)) from
    ⟨((Blk.newAt rfl).alloc).alloc, Blk.newAt (by simp), ⟨_, (Blk.newAt (by simp)).alloc, rfl⟩, pa (pa (pa pr))⟩)
  generalize (((w.alloc (.cells #[.slice SA n c, .int .i64 idle, .int .i64 price] 80)).alloc (.cells #[.int .i64 0, .int .i64 0, .int .i64 0, .int .i64 0, .int .i64 0, .int .i64 0, .int .i64 0, .int .i64 0, .int .i64 0, .int .i64 0, .int .i64 0, .int .i64 0] 118)).alloc (.cells #[.int .i64 0, .int .i64 0, .int .i64 0, .int .i64 0, .int .i64 0, .int .i64 0, .int .i64 0, .int .i64 0, .int .i64 0, .int .i64 0, .int .i64 0, .int .i64 0] 118)) = v0 at *
  have HN3 := Lib.hid (show w.heap.size ≤ w.heap.size + 1 ∧ w.heap.size ≤ w.heap.size + 1 + 1 ∧ w.heap.size ≠ w.heap.size + 1 ∧ w.heap.size ≠ w.heap.size + 1 + 1 ∧ w.heap.size + 1 ≠ w.heap.size + 1 + 1 by omega)
  generalize w.heap.size + 1 + 1 = b5 at *
  generalize w.heap.size + 1 = b4 at *
  go_loopw [12] (fun iv wr => ∃ k : Nat, iv = .int .i64 (k : Int) ∧ k ≤ n ∧ Blk wr w.heap.size 80 #[.slice SA n c, .int .i64 idle, .int .i64 price] ∧ Blk wr b5 118 (valsC (valsF sl ch k)) ∧ (∃ cs, Blk wr b4 118 cs ∧ cs.size = 12) ∧ Below w.heap.size w wr) (fun iv _ => n - (intOf iv).toNat)
  case atStart => exact ⟨0, rfl, Nat.zero_le _, HS0.out⟩
  case round =>
    clear HS0
    obtain ⟨k, rfl, hk, q0, q5, ⟨cs, q4, hcs⟩, hq⟩ := hrel
    have HQ := Lib.hid hq
    have Q0 := Lib.hid q0
    have Q5 := Lib.hid q5
    have Q4 := Lib.hid q4
    have x0 := q0.cellAt 0 rfl
    have xl := q0.lt
    clear q0 q5 q4
    by_cases hlt : k < n
    · have hst : ∀ q : Int, valsF sl ch (k + 1) q = ((valsF sl ch k q).1 + (valP (partAt sl k (ch.getD k 0)) q).1, (valsF sl ch k q).2 + (valP (partAt sl k (ch.getD k 0)) q).2) := fun q => rfl
      have hk' : k < sl.length := by rw [HN.out]; exact hlt
      obtain ⟨_, _, hpo⟩ := part_mem HSl.out HCh.out hk'
      have hcb := HCh.out.2 k hk'
      obtain ⟨b0, off0, rfl, hb0, hct0⟩ := (HC.out.below (HQ.out.mono hB)).at_ (k := k) (by rw [HM.out]; exact hlt)
      have e0 := hct0 k (by rw [HM.out]; exact hlt)
      obtain ⟨b1, off1, rfl, hb1, hct1⟩ := (HR.out.below (HQ.out.mono hB)).at_ hk'
      obtain ⟨A2, c2, e1, hts, hcap⟩ := hct1 k hk'
      unfold partAt at *
      generalize ch.getD k 0 = y at *
      obtain ⟨yn, rfl⟩ : ∃ yn : Nat, y = (yn : Int) := ⟨y.toNat, by omega⟩
      have hyl : yn < (sl.getD k []).length := by omega
      obtain ⟨b2, off2, rfl, hb2, hct2⟩ := parts_at hts hyl
      obtain ⟨u0, u1, u2, u3, u4, u5, u6, u7, u8, u9, u10, u11, u12, u13⟩ := part_cells (hct2 yn hyl)
      rw [Int.toNat_natCast] at *
      generalize (sl.getD k []).length = ln at *
      generalize (sl.getD k []).getD yn default = prt at *
      have hb0w : b0 < wr.heap.size := Nat.lt_of_lt_of_le (Nat.lt_of_lt_of_le hb0 hB) HQ.out.size
      have hb1w : b1 < wr.heap.size := Nat.lt_of_lt_of_le (Nat.lt_of_lt_of_le hb1 hB) HQ.out.size
      have hb2w : b2 < wr.heap.size := Nat.lt_of_lt_of_le (Nat.lt_of_lt_of_le hb2 hB) HQ.out.size
      have y0 : (0 : Int) ≤ (yn : Int) := by omega
      have y1 : (yn : Int) < (ln : Int) := by omega
      have k0 : (0 : Int) ≤ (k : Int) := by omega
      have k1 : (k : Int) < (n : Int) := by omega
      have HSt := Lib.hid hst
      have HPo := Lib.hid hpo
      rw [← mix_start] at Q5
      clear hst hct0 hct1 hct2 hts hcap hcb hpo
      go_wp2
      obtain ⟨wo, hwo⟩ : ∃ wo : World, wo = wr := ⟨_, rfl⟩
      subst hwo
      have HP0 := Lib.hid (show Blk wo w.heap.size 80 #[.slice (some ⟨b1, off1, none⟩) n c, .int .i64 idle, .int .i64 price] ∧ Blk wo b5 118 (valsC (mixV sl ch k 0)) ∧ Blk wo b4 118 cs ∧ Below w.heap.size w wo from ⟨Q0.out, Q5.out, Q4.out, HQ.out⟩)
      clear Q0 Q5 Q4 HQ x0 xl hq hb0w hb1w hb2w e0 e1 u0 u1 u2 u3 u4 u5 u6 u7 u8 u9 u10 u11 u12 u13
      go_loopw [27] (fun iv wr => ∃ q : Nat, iv = .int .i64 (q : Int) ∧ q ≤ 6 ∧ Blk wr w.heap.size 80 #[.slice (some ⟨b1, off1, none⟩) n c, .int .i64 idle, .int .i64 price] ∧ Blk wr b5 118 (valsC (mixV sl ch k q)) ∧ Blk wr b4 118 cs ∧ Below w.heap.size w wr) (fun iv _ => 6 - (intOf iv).toNat)
      case atStart => exact ⟨0, rfl, Nat.zero_le _, HP0.out⟩
      case round =>
        clear HP0
        obtain ⟨q, rfl, hq6, q0, q5, q4, hq⟩ := hrel
        have HQ := Lib.hid hq
        have Q0 := Lib.hid q0
        have Q5 := Lib.hid q5
        have Q4 := Lib.hid q4
        clear q0 q5 q4 hq
        by_cases hlt6 : q < 6
        · obtain ⟨e1, e2⟩ := vals_cell (mixV sl ch k q) hlt6
          have g1 := (Q5.out.cell _).trans e1
          have g2 := (Q5.out.cell _).trans e2
          rw [mix_at] at g1 g2
          have gl := Q5.out.lt
          have hb1 := HBd.out k (by omega) (q : Int)
          have hb2 := HPo.out.2.2 (q : Int)
          have hst := HSt.out (q : Int)
          have hms := mix_store sl ch k hlt6
          rw [hst] at hms
          have k5 : (k : Int) ≤ 5 := by omega
          have q60 : (0 : Int) ≤ (q : Int) := by omega
          have q61 : (q : Int) < 6 := by omega
          generalize (valsF sl ch k (q : Int)).1 = x1 at *
          generalize (valsF sl ch k (q : Int)).2 = x2 at *
          have HMs := Lib.hid (show valsC (mixV sl ch k (q + 1)) = ((valsC (mixV sl ch k q)).toList.take (q * 2) ++ (#[.int .i64 (x1 + (valP prt (q : Int)).1), .int .i64 (x2 + (valP prt (q : Int)).2)] : Array Value).toList ++ (valsC (mixV sl ch k q)).toList.drop (q * 2 + (#[.int .i64 (x1 + (valP prt (q : Int)).1), .int .i64 (x2 + (valP prt (q : Int)).2)] : Array Value).size)).toArray from hms)
          have bd1 : 0 ≤ x1 ∧ x1 ≤ 5000000 := by omega
          have bd2 : 0 ≤ x2 ∧ x2 ≤ 5000000 := by omega
          have bd3 : 0 ≤ (valP prt (q : Int)).1 ∧ (valP prt (q : Int)).1 ≤ 1000000 := by omega
          have bd4 : 0 ≤ (valP prt (q : Int)).2 ∧ (valP prt (q : Int)).2 ≤ 1000000 := by omega
          have u1 : IntKind.i64.wrap (x1 + (valP prt (q : Int)).1) = x1 + (valP prt (q : Int)).1 := IntWalk.i64_in _ (by omega)
          have u2 : IntKind.i64.wrap (x2 + (valP prt (q : Int)).2) = x2 + (valP prt (q : Int)).2 := IntWalk.i64_in _ (by omega)
          clear hms hst e1 e2 hb1 hb2
          go_wp2
          refine region_below 17 follows_mixed (by kernel_rfl) ?_
          intro C hC
          simp only [List.take_succ_cons, List.take_zero, List.drop_succ_cons, List.drop_zero]
          repeat (first
            | ((with_reducible refine quiet_plain rfl (fun K hK => ?_)); (focus (apply quiet_val; (focus (intro w' hw; obtain ⟨hcq, hfq⟩ := bcell ((hC.out _).1 hw); go_simp; (first | done | rfl))); (simp only [Act.put, List.setIfInBounds_toArray, List.set_cons_succ, List.set_cons_zero]); (with_reducible refine hK _ ?_); clear hK K)))
            | ((with_reducible refine quiet_skip ?_ ?_); (focus (first | (simp [Region.wanted, yielded]; done) | (simp [Region.wanted, yielded, undef]; done))); simp only [Act.put, List.setIfInBounds_toArray, List.set_cons_succ, List.set_cons_zero])
            | ((with_reducible refine quiet_go ?_ (fun K hK => ?_)); (focus (first | (simp [Region.wanted, yielded]; done) | (simp [Region.wanted, yielded, undef]; done))); (focus (apply quiet_val; (focus (intro w' hw; obtain ⟨hcq, hfq⟩ := bcell ((hC.out _).1 hw); go_simp; (first | done | rfl))); (simp only [Act.put, List.setIfInBounds_toArray, List.set_cons_succ, List.set_cons_zero]); (with_reducible refine hK _ ?_); clear hK K))))
          refine wpQuiet_nil ?_
          intro w1 hb1
          replace hb1 := (hC.out _).1 hb1
          clear hC C
          obtain ⟨hc1, hf1⟩ := bcell hb1
          have P0 := Lib.hid ((Q0.out.alloc).past hb1)
          have P5 := Lib.hid ((Q5.out.alloc).past hb1)
          have P4 := Lib.hid ((Q4.out.alloc).past hb1)
          have PB := Lib.hid (pt (pa HQ.out) hb1)
          clear g1 g2 gl hb1 hc1 hf1
          go_wp2_with ((with_reducible refine store_sub (T := 57) (x := .tmp 47) (y := .tmp 46) (o := q * 2) (vs := #[.int .i64 (x1 + (valP prt (q : Int)).1), .int .i64 (x2 + (valP prt (q : Int)).2)]) P5.out ?_ ?_ HMs.out ?_ ?_ ?_ ?_); (focus (first | rfl | (go_simp; done))); (focus (first | rfl | (go_simp; done))); (focus (rw [valsC_size]; show q * 2 + 2 ≤ 12; omega)); (focus exact range_size); (focus (simp [Value.oneCell']; done)); intro WF RF PF)
          go_roundw
          case rel =>
            obtain ⟨n1, n2, n3, n4, n5⟩ := HN3.out
            exact ⟨q + 1, by go_num, by omega, P0.out.put PF n4, RF, P4.out.put PF n5, pp PB.out PF n2⟩
          case measure => simp [intOf]; omega
        · have hq66 : q = 6 := by omega
          subst hq66
          rw [mix_end] at Q5
          go_wp2
          go_roundw
          case rel => exact ⟨k + 1, by go_num, by omega, Q0.out, Q5.out, ⟨cs, Q4.out, hcs⟩, HQ.out⟩
          case measure => simp [intOf]; omega
    · have hkn : k = n := by omega
      subst hkn
      have r := valsC_size (valsF sl ch k)
      go_wp2_with (first
        | ((with_reducible refine load_blk (T := 118) (x := .tmp 5) Q5.out rfl rfl ?_ ?_ ?_); (focus exact values_size); (focus (first | rfl | (go_simp; done))))
        | ((with_reducible refine store_blk (T := 118) (x := .tmp 4) (y := .tmp 50) (vs := valsC (valsF sl ch k)) Q4.out ?_ ?_ ?_ ?_ ?_ ?_); (focus (first | rfl | exact hcs | (simp [hcs]; done))); (focus exact values_size); (focus (simp [valsC, Value.oneCell']; done)); (focus (first | rfl | (go_simp; done))); (focus (first | rfl | (go_simp; done))); intro WF RF PF))
      clear r
      have r0 := RF.cellAt 0 rfl
      have r1 := RF.cellAt 1 rfl
      have r2 := RF.cellAt 2 rfl
      have r3 := RF.cellAt 3 rfl
      have r4 := RF.cellAt 4 rfl
      have r5 := RF.cellAt 5 rfl
      have r6 := RF.cellAt 6 rfl
      have r7 := RF.cellAt 7 rfl
      have r8 := RF.cellAt 8 rfl
      have r9 := RF.cellAt 9 rfl
      have r10 := RF.cellAt 10 rfl
      have r11 := RF.cellAt 11 rfl
      refine bodyPost_ret (v := .agg (valsC (valsF sl ch k))) (by simp [results, Tryz.results68, go_sem, valsC, r0, r1, r2, r3, r4, r5, r6, r7, r8, r9, r10, r11]) rfl ?_
      exact ⟨rfl, pp HQ.out PF HN3.out.1⟩

end Go.Proofs.YtnfbdkdjoekifaaGreatDoor
end
