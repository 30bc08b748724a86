/- Contracts: the error of a part's numbers, of a slot, of a stock (the specification of chapter 2). Printed by a program (gen_d7stk.py).
Contracts: CheckStock (the specification of chapter 2), Few (its laws). Printed by a program (gen_d7chk.py). -/
import Derived.Test.YtnfbdkdjoekifaaGreatDoorOa9
import Derived.Test.YtnfbdkdjoekifaaGreatDoorOa6

section
namespace Go.Proofs.YtnfbdkdjoekifaaGreatDoor
open Go.RowKit

/-- The error of a part's numbers. -/
def numE (p : DPart) : Int := if withinB p.price 0 1000000 then valuesE p else 2
theorem part_val (p : DPart) {k : Nat} (h : k < 6) : (#[.string p.name, .int .i64 p.price, .int .i64 (valP p 0).1, .int .i64 (valP p 0).2, .int .i64 (valP p 1).1, .int .i64 (valP p 1).2, .int .i64 (valP p 2).1, .int .i64 (valP p 2).2, .int .i64 (valP p 3).1, .int .i64 (valP p 3).2, .int .i64 (valP p 4).1, .int .i64 (valP p 4).2, .int .i64 (valP p 5).1, .int .i64 (valP p 5).2] : Array Value)[2 + k * 2]? = some (.int .i64 (valP p (k : Int)).1) ∧ (#[.string p.name, .int .i64 p.price, .int .i64 (valP p 0).1, .int .i64 (valP p 0).2, .int .i64 (valP p 1).1, .int .i64 (valP p 1).2, .int .i64 (valP p 2).1, .int .i64 (valP p 2).2, .int .i64 (valP p 3).1, .int .i64 (valP p 3).2, .int .i64 (valP p 4).1, .int .i64 (valP p 4).2, .int .i64 (valP p 5).1, .int .i64 (valP p 5).2] : Array Value)[2 + k * 2 + 1]? = some (.int .i64 (valP p (k : Int)).2) := by
  rcases (show k = 0 ∨ k = 1 ∨ k = 2 ∨ k = 3 ∨ k = 4 ∨ k = 5 by omega) with rfl | rfl | rfl | rfl | rfl | rfl <;> exact ⟨rfl, rfl⟩
theorem slot_num {p : DPart} {b : Bool} (h : nameB p.name = true) : firstV [unlessV (nameB p.name) 4, unlessV b 5, partE p] = if b then numE p else 5 := by
  rw [h]
  have h1 : partE p = numE p := by
    unfold partE numE partE1
    rw [h]
    cases withinB p.price 0 1000000
    · rw [if_pos (by decide)]; rfl
    · rw [if_neg (by decide)]; rfl
  rw [h1]
  cases b
  · rfl
  · show firstV [0, 0, numE p] = numE p
    unfold firstV
    rw [if_pos rfl]
    unfold firstV
    rw [if_pos rfl]
    unfold firstV
    split
    · rename_i h2; rw [h2]; rfl
    · rfl

set_option maxHeartbeats 4000000 in
set_option maxRecDepth 100000 in
theorem refNumbers_any (p : DPart) (w : World) :
    Calls Tryz.prog 99 #[.agg #[.string p.name, .int .i64 p.price, .int .i64 (valP p 0).1, .int .i64 (valP p 0).2, .int .i64 (valP p 1).1, .int .i64 (valP p 1).2, .int .i64 (valP p 2).1, .int .i64 (valP p 2).2, .int .i64 (valP p 3).1, .int .i64 (valP p 3).2, .int .i64 (valP p 4).1, .int .i64 (valP p 4).2, .int .i64 (valP p 5).1, .int .i64 (valP p 5).2]] w fun e w' => e = .returned (.int .i64 (numE p)) ∧ Below w.heap.size w w' := by
  have HE := Lib.hid (show valuesE p = (scan (valErr p) 6 0).2 from rfl)
  have HN := Lib.hid (show numE p = if withinB p.price 0 1000000 then valuesE p else 2 from rfl)
  generalize numE p = N at *
  generalize valuesE p = E at *
  have R0 := Lib.hid (show Blk (w.alloc (.cells #[.string p.name, .int .i64 p.price, .int .i64 (valP p 0).1, .int .i64 (valP p 0).2, .int .i64 (valP p 1).1, .int .i64 (valP p 1).2, .int .i64 (valP p 2).1, .int .i64 (valP p 2).2, .int .i64 (valP p 3).1, .int .i64 (valP p 3).2, .int .i64 (valP p 4).1, .int .i64 (valP p 4).2, .int .i64 (valP p 5).1, .int .i64 (valP p 5).2] 60)) w.heap.size 60 #[.string p.name, .int .i64 p.price, .int .i64 (valP p 0).1, .int .i64 (valP p 0).2, .int .i64 (valP p 1).1, .int .i64 (valP p 1).2, .int .i64 (valP p 2).1, .int .i64 (valP p 2).2, .int .i64 (valP p 3).1, .int .i64 (valP p 3).2, .int .i64 (valP p 4).1, .int .i64 (valP p 4).2, .int .i64 (valP p 5).1, .int .i64 (valP p 5).2] from Blk.newAt rfl)
  have HB0 := Lib.hid (show Below w.heap.size w (w.alloc (.cells #[.string p.name, .int .i64 p.price, .int .i64 (valP p 0).1, .int .i64 (valP p 0).2, .int .i64 (valP p 1).1, .int .i64 (valP p 1).2, .int .i64 (valP p 2).1, .int .i64 (valP p 2).2, .int .i64 (valP p 3).1, .int .i64 (valP p 3).2, .int .i64 (valP p 4).1, .int .i64 (valP p 4).2, .int .i64 (valP p 5).1, .int .i64 (valP p 5).2] 60)) from pa pr)
  cases hp : withinB p.price 0 1000000
  · have HX := Lib.hid (show N = 2 by rw [HN.out, hp]; rfl)
    clear HN HE
    have x1 := R0.out.cellAt 1 rfl
    have xl := R0.out.lt
    go_enter Tryz.func99, Tryz.ntmps99
    go_wp2_with (go_at_call 17; refine (refWithin_any _ _ _ _).mono ?_; rintro e w' ⟨rfl, rfl⟩)
    go_ret
    exact ⟨ret_int HX.out.symm, HB0.out⟩
  · have HX := Lib.hid (show N = E by rw [HN.out, hp]; rfl)
    clear HN
    have x1 := R0.out.cellAt 1 rfl
    have xl := R0.out.lt
    have HPv := Lib.hid (fun k (hk : k < 6) => part_val p hk)
    go_enter Tryz.func99, Tryz.ntmps99
    go_wp2_with (go_at_call 17; refine (refWithin_any _ _ _ _).mono ?_; rintro e w' ⟨rfl, rfl⟩)
    clear x1 xl
    generalize (w.alloc (.cells #[.string p.name, .int .i64 p.price, .int .i64 (valP p 0).1, .int .i64 (valP p 0).2, .int .i64 (valP p 1).1, .int .i64 (valP p 1).2, .int .i64 (valP p 2).1, .int .i64 (valP p 2).2, .int .i64 (valP p 3).1, .int .i64 (valP p 3).2, .int .i64 (valP p 4).1, .int .i64 (valP p 4).2, .int .i64 (valP p 5).1, .int .i64 (valP p 5).2] 60)) = wo at *
    go_loopw [3] (fun i wr => ∃ k : Nat, k ≤ 6 ∧ i = .int .i64 (k : Int) ∧ scan (valErr p) 6 0 = scan (valErr p) 6 k ∧ Below wo.heap.size wo wr) (fun i _ => 6 - (intOf i).toNat)
    case atStart => exact ⟨0, Nat.zero_le _, rfl, rfl, pr⟩
    case round =>
      obtain ⟨k, hk, rfl, hf, hq⟩ := hrel
      have HQ := Lib.hid (pt HB0.out hq)
      have HQo := Lib.hid hq
      by_cases hlt : k < 6
      · have HS := Lib.hid (hf.trans (scan_step hlt))
        have HV : valErr p k = firstV [unlessV (withinB (valP p (k : Int)).1 0 1000000 && withinB (valP p (k : Int)).2 0 1000000) 2, unlessV (decide ((valP p (k : Int)).1 ≤ (valP p (k : Int)).2)) 9] := rfl
        have RK := R0.out.past hq
        obtain ⟨p1, p2⟩ := HPv.out k hlt
        have c0 := (RK.cell _).trans p1
        have c1 := (RK.cell _).trans p2
        have cl := RK.lt
        have k0 : (0 : Int) ≤ (k : Int) := by omega
        have k1 : (k : Int) < 6 := by omega
        clear hf RK p1 p2 hq
        generalize valErr p k = e at *
        generalize (valP p (k : Int)).1 = lo at *
        generalize (valP p (k : Int)).2 = hi at *
        replace HV := Lib.hid HV
        cases h1 : withinB lo 0 1000000
        · have HRs := Lib.hid (show N = 2 by
            have he : e = 2 := by rw [HV.out, h1]; rfl
            rw [HX.out, HE.out, HS.out, he, if_neg (by decide)])
          go_wp2_with (go_at_call 17; refine (refWithin_any _ _ _ _).mono ?_; rintro e w' ⟨rfl, rfl⟩)
          go_ret
          exact ⟨ret_int HRs.out.symm, pa HQ.out⟩
        · cases h2 : withinB hi 0 1000000
          · have HRs := Lib.hid (show N = 2 by
              have he : e = 2 := by rw [HV.out, h1, h2]; exact if_neg (by decide)
              rw [HX.out, HE.out, HS.out, he, if_neg (by decide)])
            go_wp2_with (go_at_call 17; refine (refWithin_any _ _ _ _).mono ?_; rintro e w' ⟨rfl, rfl⟩)
            go_ret
            exact ⟨ret_int HRs.out.symm, pa HQ.out⟩
          · by_cases h3 : lo ≤ hi
            · have HS2 := Lib.hid (show scan (valErr p) 6 0 = scan (valErr p) 6 (k + 1) by
                have he : e = 0 := by rw [HV.out, h1, h2, decide_eq_true h3]; decide
                rw [HS.out, he, if_pos rfl])
              have h4 : ¬ hi < lo := by omega
              go_wp2_with (go_at_call 17; refine (refWithin_any _ _ _ _).mono ?_; rintro e w' ⟨rfl, rfl⟩)
              go_roundw
              case rel => exact ⟨k + 1, by omega, by go_num, HS2.out, pa HQo.out⟩
              case measure => simp [intOf]; omega
            · have HRs := Lib.hid (show N = 9 by
                have he : e = 9 := by rw [HV.out, h1, h2, decide_eq_false h3]; decide
                rw [HX.out, HE.out, HS.out, he, if_neg (by decide)])
              have h4 : hi < lo := by omega
              go_wp2_with (go_at_call 17; refine (refWithin_any _ _ _ _).mono ?_; rintro e w' ⟨rfl, rfl⟩)
              go_ret
              exact ⟨ret_int HRs.out.symm, pa HQ.out⟩
      · have HRs := Lib.hid (show N = 0 by rw [HX.out, HE.out, hf, scan_end (by omega)])
        clear hf
        go_wp2
        go_ret
        exact ⟨ret_int HRs.out.symm, HQ.out⟩

set_option maxHeartbeats 8000000 in
set_option maxRecDepth 100000 in
theorem refSlotErr_any (B : Nat) (l : List DPart) (A : Option Addr) (n c : Nat) (w : World) (hr : CellsIn B w A (partsC l)) (hB : B ≤ w.heap.size) (hn : l.length = n) (hm : n ≤ 1000) (hs : ∀ p ∈ l, SmallPart p) :
    Calls Tryz.prog 84 #[.slice A n c] w fun e w' => e = .returned (.int .i64 (slotE l)) ∧ Below w.heap.size w w' := by
  have HT := Lib.hid (show slotE l = if slotE1 l.length ≠ 0 then slotE1 l.length else (scan (slotErrs l) l.length 0).2 from rfl)
  have HR := Lib.hid hr
  have HSm := Lib.hid hs
  have HN := Lib.hid hn
  have HE1 := Lib.hid (show slotE1 l.length = firstV [unlessV (decide (0 < n)) 10, unlessV (decide ((n : Int) ≤ 6)) 8] by rw [← hn]; rfl)
  clear hr hs
  generalize slotE l = E at *
  by_cases hz : n = 0
  · have HX := Lib.hid (show E = 10 by
      have h1 : slotE1 l.length = 10 := by rw [HE1.out, hz]; decide
      rw [HT.out, h1, if_pos (by decide)])
    have hz1 : ((n : Int) == 0) = true := by simp [hz]
    clear HT HE1 hz
    go_enter Tryz.func84, Tryz.ntmps84
    go_wp2
    go_ret
    exact ⟨ret_int HX.out.symm, pr⟩
  · have hz1 : ((n : Int) == 0) = false := beq_eq_false_iff_ne.2 (by omega)
    by_cases h6 : n ≤ 6
    · have h61 : ¬ (6 : Int) < (n : Int) := by omega
      have HE := Lib.hid (show E = (scan (slotErrs l) n 0).2 by
        have h1 : slotE1 l.length = 0 := by rw [HE1.out, decide_eq_true (show 0 < n by omega), decide_eq_true (show (n : Int) ≤ 6 by omega)]; decide
        rw [HT.out, h1, if_neg (by decide), hn])
      clear HT HE1
      go_enter Tryz.func84, Tryz.ntmps84
      go_wp2
      go_loopw [3] (fun i wr => ∃ k : Nat, k ≤ n ∧ i = .int .i64 (k : Int) ∧ scan (slotErrs l) n 0 = scan (slotErrs l) n k ∧ Below w.heap.size w wr) (fun i _ => n - (intOf i).toNat)
      case atStart => exact ⟨0, Nat.zero_le _, rfl, rfl, pr⟩
      case round =>
        obtain ⟨k, hk, rfl, hf, hq⟩ := hrel
        have HQ := Lib.hid hq
        clear hq
        by_cases hlt : k < n
        · have hk' : k < l.length := by rw [hn]; exact hlt
          obtain ⟨b, off, rfl, hb, hct⟩ := parts_at (HR.out.below (HQ.out.mono hB)) hk'
          obtain ⟨u0, u1, u2, u3, u4, u5, u6, u7, u8, u9, u10, u11, u12, u13⟩ := part_cells (hct k hk')
          have hbw : b < wr.heap.size := Nat.lt_of_lt_of_le (Nat.lt_of_lt_of_le hb hB) HQ.out.size
          have HS := Lib.hid (hf.trans (scan_step hlt))
          have hsm := HSm.out _ (getD_mem' hk')
          have hsm1 : (l.getD k default).name.size ≤ 1000 := hsm
          have hFk : slotErrs l k = firstV [unlessV (nameB (l.getD k default).name) 4, unlessV (!anyG (sameN (l.getD k default)) (l.take k)) 5, partE (l.getD k default)] := rfl
          have HNm := Lib.hid (fun j (hj : j < n) => (show ∀ W, Below wr.heap.size wr W → W.cell? ⟨b, off + j * 14, none⟩ = some (.string (l.getD j default).name) from fun W hW => ((hW.cell (p := ⟨b, off + j * 14, none⟩) hbw).trans (part_cells (hct j (by rw [hn]; exact hj))).1)))
          have HTk := Lib.hid (fun j (hj : j < n) => anyG_take (p := sameN (l.getD k default)) (xs := l) (k := j) default (by rw [hn]; exact hj))
          have k0 : (0 : Int) ≤ (k : Int) := by omega
          have k1 : (k : Int) < (n : Int) := by omega
          clear hct hf
          cases hnm : nameB (l.getD k default).name
          · have HRs := Lib.hid (show E = 4 by
              have he : slotErrs l k = 4 := by rw [hFk, hnm]; exact if_neg (by decide)
              rw [HE.out, HS.out, he, if_neg (by decide)])
            clear hFk HS HTk
            generalize l.getD k default = y at *
            go_wp2_with (go_at_call 98; refine (baseIsName_any _ _ hsm1).mono ?_; rintro e w' ⟨rfl, rfl⟩; rw [hnm])
            go_ret
            exact ⟨ret_int HRs.out.symm, HQ.out⟩
          · have hSn := fun b => slot_num (b := b) hnm
            have HFk := Lib.hid (show slotErrs l k = if !anyG (sameN (l.getD k default)) (l.take k) then numE (l.getD k default) else 5 by rw [hFk, hSn])
            clear hFk hSn
            generalize slotErrs l k = e at *
            generalize hY : l.getD k default = y at *
            have HY := Lib.hid hY
            clear hY
            go_wp2_with (go_at_call 98; refine (baseIsName_any _ _ hsm1).mono ?_; rintro e w' ⟨rfl, rfl⟩; rw [hnm])
            generalize wr = wx at *
            clear u0 u1 u2 u3 u4 u5 u6 u7 u8 u9 u10 u11 u12 u13
            go_loopw [4] (fun jv wr => ∃ j : Nat, jv = .int .i64 (j : Int) ∧ j ≤ k ∧ anyG (sameN y) (l.take j) = false ∧ Below wx.heap.size wx wr) (fun jv _ => k - (intOf jv).toNat)
            case atStart => exact ⟨0, rfl, Nat.zero_le _, rfl, pr⟩
            case round =>
              obtain ⟨j, rfl, hj, hany, hab⟩ := hrel
              have HAb := Lib.hid hab
              have HAny := Lib.hid hany
              have hbr : b < wr.heap.size := Nat.lt_of_lt_of_le hbw hab.size
              clear hab hany
              by_cases hjk : j < k
              · have a0 := HNm.out j (by omega) wr HAb.out
                have a1 := HNm.out k (by omega) wr HAb.out
                rw [HY.out] at a1
                have HTj := Lib.hid (HTk.out j (by omega))
                generalize l.getD j default = z at *
                have j0 : (0 : Int) ≤ (j : Int) := by omega
                have j1 : (j : Int) < (n : Int) := by omega
                have j2 : (j : Int) < (k : Int) := by omega
                have hsl := sameS_list z.name y.name
                have HSm2 := Lib.hid (show sameN y z = sameS z.name y.name from rfl)
                cases hss : sameS z.name y.name
                · rw [hss] at hsl
                  have hsl2 := hsl.symm
                  have HT2 := Lib.hid (show anyG (sameN y) (l.take (j + 1)) = false by rw [HTj.out, HAny.out, HSm2.out, hss]; rfl)
                  clear hsl
                  go_wp2
                  refine region_below 10 follows_mixed (by kernel_rfl) ?_
                  intro C hC
                  simp only [List.take_succ_cons, List.take_zero, List.drop_succ_cons, List.drop_zero]
                  repeat (first
                    | ((with_reducible refine quiet_plain rfl (fun K hK => ?_)); (focus (apply quiet_val; (focus (intro w' hw; obtain ⟨hcq, hfq⟩ := bcell ((hC.out _).1 hw); go_simp; (first | done | rfl))); (simp only [Act.put, List.setIfInBounds_toArray, List.set_cons_succ, List.set_cons_zero]); (with_reducible refine hK _ ?_); clear hK K)))
                    | ((with_reducible refine quiet_skip ?_ ?_); (focus (first | (simp [Region.wanted, yielded]; done) | (simp [Region.wanted, yielded, undef]; done))); simp only [Act.put, List.setIfInBounds_toArray, List.set_cons_succ, List.set_cons_zero])
                    | ((with_reducible refine quiet_go ?_ (fun K hK => ?_)); (focus (first | (simp [Region.wanted, yielded]; done) | (simp [Region.wanted, yielded, undef]; done))); (focus (apply quiet_val; (focus (intro w' hw; obtain ⟨hcq, hfq⟩ := bcell ((hC.out _).1 hw); go_simp; (first | done | rfl))); (simp only [Act.put, List.setIfInBounds_toArray, List.set_cons_succ, List.set_cons_zero]); (with_reducible refine hK _ ?_); clear hK K))))
                  refine wpQuiet_nil ?_
                  intro w1 hb1
                  replace hb1 := (hC.out _).1 hb1
                  clear hC C
                  obtain ⟨hc1, hf1⟩ := bcell hb1
                  have HAc := Lib.hid (pt HAb.out hb1)
                  clear hb1 hc1 hf1
                  go_wp2
                  go_roundw
                  case rel => exact ⟨j + 1, by go_num, by omega, HT2.out, HAc.out⟩
                  case measure => simp [intOf]; omega
                · rw [hss] at hsl
                  have hsl2 := hsl.symm
                  have HT2 := Lib.hid (show anyG (sameN y) (l.take (j + 1)) = true by rw [HTj.out, HAny.out, HSm2.out, hss]; rfl)
                  have HRs := Lib.hid (show E = 5 by
                    have h2 : anyG (sameN y) (l.take k) = true := by
                      unfold anyG at HT2 ⊢
                      obtain ⟨x, hx, hy⟩ := List.any_eq_true.1 HT2.out
                      exact List.any_eq_true.2 ⟨x, (List.take_subset_take_left l (show j + 1 ≤ k by omega)) hx, hy⟩
                    have he : e = 5 := by rw [HFk.out, h2]; rfl
                    rw [HE.out, HS.out, he, if_neg (by decide)])
                  clear hsl
                  go_wp2
                  refine region_below 10 follows_mixed (by kernel_rfl) ?_
                  intro C hC
                  simp only [List.take_succ_cons, List.take_zero, List.drop_succ_cons, List.drop_zero]
                  repeat (first
                    | ((with_reducible refine quiet_plain rfl (fun K hK => ?_)); (focus (apply quiet_val; (focus (intro w' hw; obtain ⟨hcq, hfq⟩ := bcell ((hC.out _).1 hw); go_simp; (first | done | rfl))); (simp only [Act.put, List.setIfInBounds_toArray, List.set_cons_succ, List.set_cons_zero]); (with_reducible refine hK _ ?_); clear hK K)))
                    | ((with_reducible refine quiet_skip ?_ ?_); (focus (first | (simp [Region.wanted, yielded]; done) | (simp [Region.wanted, yielded, undef]; done))); simp only [Act.put, List.setIfInBounds_toArray, List.set_cons_succ, List.set_cons_zero])
                    | ((with_reducible refine quiet_go ?_ (fun K hK => ?_)); (focus (first | (simp [Region.wanted, yielded]; done) | (simp [Region.wanted, yielded, undef]; done))); (focus (apply quiet_val; (focus (intro w' hw; obtain ⟨hcq, hfq⟩ := bcell ((hC.out _).1 hw); go_simp; (first | done | rfl))); (simp only [Act.put, List.setIfInBounds_toArray, List.set_cons_succ, List.set_cons_zero]); (with_reducible refine hK _ ?_); clear hK K))))
                  refine wpQuiet_nil ?_
                  intro w1 hb1
                  replace hb1 := (hC.out _).1 hb1
                  clear hC C
                  obtain ⟨hc1, hf1⟩ := bcell hb1
                  have HAc := Lib.hid (pt (pt HQ.out HAb.out) hb1)
                  clear hb1 hc1 hf1
                  go_wp2
                  go_ret
                  exact ⟨ret_int HRs.out.symm, HAc.out⟩
              · have hjk2 : j = k := by omega
                subst hjk2
                have HFe := Lib.hid (show e = numE y by rw [HFk.out, HAny.out]; rfl)
                have HQ2 := Lib.hid (pt HQ.out HAb.out)
                obtain ⟨b9, o9, hA9, hb9, hct⟩ := parts_at (HR.out.below (HQ2.out.mono hB)) hk'
                have hct := hct j hk'
                rw [HY.out] at hct
                injection hA9 with hA9
                injection hA9 with h91 h92 _
                subst h91 h92
                obtain ⟨u0, u1, u2, u3, u4, u5, u6, u7, u8, u9, u10, u11, u12, u13⟩ := part_cells hct
                have HNu := Lib.hid (fun W => refNumbers_any y W)
                rw [← HFe.out] at HNu
                clear HFe HFk HTk HNm hct
                by_cases he : e = 0
                · have HS2 := Lib.hid (show scan (slotErrs l) n 0 = scan (slotErrs l) n (j + 1) by rw [HS.out, if_pos he])
                  have he1 : (e != 0) = false := by simp [he]
                  clear he
                  go_wp2_with (go_at_call 99; refine (HNu.out _).mono ?_; rintro e w2 ⟨rfl, hb2⟩; have HB2 := Lib.hid (pt HQ2.out hb2); clear hb2)
                  go_roundw
                  case rel => exact ⟨j + 1, by omega, by go_num, HS2.out, HB2.out⟩
                  case measure => simp [intOf]; omega
                · have HRs := Lib.hid (show E = e by rw [HE.out, HS.out, if_neg he])
                  have he1 : (e != 0) = true := by simpa using he
                  clear he
                  go_wp2_with (go_at_call 99; refine (HNu.out _).mono ?_; rintro e w2 ⟨rfl, hb2⟩; have HB2 := Lib.hid (pt HQ2.out hb2); clear hb2)
                  go_ret
                  exact ⟨ret_int HRs.out.symm, HB2.out⟩
        · have HRs := Lib.hid (show E = 0 by rw [HE.out, hf, scan_end (by omega)])
          clear hf
          go_wp2
          go_ret
          exact ⟨ret_int HRs.out.symm, HQ.out⟩
    · have h61 : (6 : Int) < (n : Int) := by omega
      have HX := Lib.hid (show E = 8 by
        have h1 : slotE1 l.length = 8 := by rw [HE1.out, decide_eq_true (show 0 < n by omega), decide_eq_false (show ¬ (n : Int) ≤ 6 by omega)]; decide
        rw [HT.out, h1, if_pos (by decide)])
      clear HT HE1
      go_enter Tryz.func84, Tryz.ntmps84
      go_wp2
      go_ret
      exact ⟨ret_int HX.out.symm, pr⟩

end Go.Proofs.YtnfbdkdjoekifaaGreatDoor
end

section
namespace Go.Proofs.YtnfbdkdjoekifaaGreatDoor
open Go.RowKit

theorem stock_two {a b : Bool} {n : Nat} (h : (a && b) = false) : firstV [unlessV (a && b) 2, unlessV (decide (0 < n)) 10, unlessV (decide ((n : Int) ≤ 5)) 8] = 2 := by rw [h]; rfl

set_option maxHeartbeats 4000000 in
set_option maxRecDepth 100000 in
theorem refCheckStock_any (B : Nat) (sl : List (List DPart)) (A : Option Addr) (n c : Nat) (idle price : Int) (w : World) (hr : SlotsIn B w A sl) (hB : B ≤ w.heap.size) (hn : sl.length = n) (hs : n ≤ 1000 → SmallSlots sl) :
    Calls Tryz.prog 59 #[.agg #[.slice A n c, .int .i64 idle, .int .i64 price]] w fun e w' => e = .returned (.tuple #[.int .i64 ((stockE idle price sl).1 : Int), .int .i64 (stockE idle price sl).2]) ∧ Below w.heap.size w w' := by
  have HT := Lib.hid (show stockE idle price sl = if stockE1 idle price sl.length ≠ 0 then (0, stockE1 idle price sl.length) else scan (slotsErr sl) sl.length 0 from rfl)
  have HR := Lib.hid hr
  have HSm := Lib.hid hs
  have HE1 := Lib.hid (show stockE1 idle price sl.length = firstV [unlessV (withinB idle 0 1000 && withinB price 0 1000) 2, unlessV (decide (0 < n)) 10, unlessV (decide ((n : Int) ≤ 5)) 8] by rw [← hn]; rfl)
  have HN := Lib.hid hn
  clear hr hs
  generalize stockE idle price sl = S at *
  have R0 := Lib.hid (show Blk (w.alloc (.cells #[.slice A n c, .int .i64 idle, .int .i64 price] 27)) w.heap.size 27 #[.slice A n c, .int .i64 idle, .int .i64 price] from Blk.newAt rfl)
  have HB0 := Lib.hid (show Below w.heap.size w (w.alloc (.cells #[.slice A n c, .int .i64 idle, .int .i64 price] 27)) from pa pr)
  have x0 := R0.out.cellAt 0 rfl; have x1 := R0.out.cellAt 1 rfl; have x2 := R0.out.cellAt 2 rfl; have xl := R0.out.lt
  cases h1 : withinB idle 0 1000
  · have HX := Lib.hid (show S = (0, 2) by
      have e : stockE1 idle price sl.length = 2 := by rw [HE1.out]; exact stock_two (by rw [h1]; rfl)
      rw [HT.out, e]; rfl)
    go_enter Tryz.func59, Tryz.ntmps59
    go_wp2_with (go_at_call 17; refine (refWithin_any _ _ _ _).mono ?_; rintro e w' ⟨rfl, rfl⟩)
    go_ret2
    exact ⟨ret_ii (by rw [HX.out]; rfl) (by rw [HX.out]), HB0.out⟩
  · cases h2 : withinB price 0 1000
    · have HX := Lib.hid (show S = (0, 2) by
        have e : stockE1 idle price sl.length = 2 := by rw [HE1.out]; exact stock_two (by rw [h1, h2]; rfl)
        rw [HT.out, e]; rfl)
      go_enter Tryz.func59, Tryz.ntmps59
      go_wp2_with (go_at_call 17; refine (refWithin_any _ _ _ _).mono ?_; rintro e w' ⟨rfl, rfl⟩)
      go_ret2
      exact ⟨ret_ii (by rw [HX.out]; rfl) (by rw [HX.out]), HB0.out⟩
    · by_cases hz : n = 0
      · have HX := Lib.hid (show S = (0, 10) by
          have e : stockE1 idle price sl.length = 10 := by rw [HE1.out, h1, h2, hz]; decide
          rw [HT.out, e]; rfl)
        have hz1 : ((n : Int) == 0) = true := by simp [hz]
        clear hz
        go_enter Tryz.func59, Tryz.ntmps59
        go_wp2_with (go_at_call 17; refine (refWithin_any _ _ _ _).mono ?_; rintro e w' ⟨rfl, rfl⟩)
        go_ret2
        exact ⟨ret_ii (by rw [HX.out]; rfl) (by rw [HX.out]), HB0.out⟩
      · have hz1 : ((n : Int) == 0) = false := beq_eq_false_iff_ne.2 (by omega)
        by_cases h5 : n ≤ 5
        · have h51 : ¬ (5 : Int) < (n : Int) := by omega
          have HX := Lib.hid (show S = scan (slotsErr sl) n 0 by
            have e : stockE1 idle price sl.length = 0 := by rw [HE1.out, h1, h2, decide_eq_true (show 0 < n by omega), decide_eq_true (show (n : Int) ≤ 5 by omega)]; decide
            rw [HT.out, e, if_neg (by decide), hn])
          have HSm2 := Lib.hid (HSm.out (by omega))
          clear HT HE1 HSm
          go_enter Tryz.func59, Tryz.ntmps59
          go_wp2_with (go_at_call 17; refine (refWithin_any _ _ _ _).mono ?_; rintro e w' ⟨rfl, rfl⟩)
          clear x0 x1 x2 xl
          generalize (w.alloc (.cells #[.slice A n c, .int .i64 idle, .int .i64 price] 27)) = wo at *
          go_loopw [4] (fun i wr => ∃ k : Nat, k ≤ n ∧ i = .int .i64 (k : Int) ∧ scan (slotsErr sl) n 0 = scan (slotsErr sl) n k ∧ Below wo.heap.size wo wr) (fun i _ => n - (intOf i).toNat)
          case atStart => exact ⟨0, Nat.zero_le _, rfl, rfl, pr⟩
          case round =>
            obtain ⟨k, hk, rfl, hf, hq⟩ := hrel
            have HQ := Lib.hid (pt HB0.out hq)
            have HQo := Lib.hid hq
            have RK := Lib.hid (R0.out.past hq)
            have x0 := RK.out.cellAt 0 rfl; have x1 := RK.out.cellAt 1 rfl; have x2 := RK.out.cellAt 2 rfl; have xl := RK.out.lt
            clear hq
            by_cases hlt : k < n
            · have hk' : k < sl.length := by rw [hn]; exact hlt
              obtain ⟨b, off, rfl, hb, hct⟩ := (HR.out.below (HQ.out.mono hB)).at_ hk'
              obtain ⟨A', c', u0, hps, hcap⟩ := hct k hk'
              have HS := Lib.hid (hf.trans (scan_step hlt))
              have hmem := getD_mem' (l := sl) (k := k) hk'
              have hd : sl.getD k default = sl.getD k [] := rfl
              rw [hd] at hmem
              obtain ⟨hl1, hl2⟩ := HSm2.out _ hmem
              have HSe := Lib.hid (refSlotErr_any wr.heap.size (sl.getD k []) A' _ c' wr (hps.more (Nat.le_trans hB HQ.out.size)) (Nat.le_refl _) rfl hl1 hl2)
              have hFk : slotsErr sl k = slotE (sl.getD k []) := rfl
              rw [← hFk] at HSe
              have hbw : b < wr.heap.size := Nat.lt_of_lt_of_le (Nat.lt_of_lt_of_le hb hB) HQ.out.size
              have k0 : (0 : Int) ≤ (k : Int) := by omega
              have k1 : (k : Int) < (n : Int) := by omega
              clear hct hf hFk hps hmem hd hl1 hl2
              generalize slotsErr sl k = e at *
              generalize (sl.getD k []).length = m at *
              by_cases he : e = 0
              · have HS2 := Lib.hid (show scan (slotsErr sl) n 0 = scan (slotsErr sl) n (k + 1) by rw [HS.out, if_pos he])
                have he1 : (e != 0) = false := by simp [he]
                clear he
                go_wp2_with (go_at_call 84; refine HSe.out.mono ?_; rintro e w2 ⟨rfl, hb2⟩; have HB2 := Lib.hid (pt HQo.out hb2); clear hb2)
                go_roundw
                case rel => exact ⟨k + 1, by omega, by go_num, HS2.out, HB2.out⟩
                case measure => simp [intOf]; omega
              · have HRs := Lib.hid (show S = (k, e) by rw [HX.out, HS.out, if_neg he])
                have he1 : (e != 0) = true := by simpa using he
                clear he
                go_wp2_with (go_at_call 84; refine HSe.out.mono ?_; rintro e w2 ⟨rfl, hb2⟩; have HB2 := Lib.hid (pt HQ.out hb2); clear hb2)
                go_ret2
                exact ⟨ret_ii (by rw [HRs.out]) (by rw [HRs.out]), HB2.out⟩
            · have HRs := Lib.hid (show S = (0, 0) by rw [HX.out, hf, scan_end (by omega)])
              clear hf
              go_wp2
              go_ret2
              exact ⟨ret_ii (by rw [HRs.out]; rfl) (by rw [HRs.out]), HQ.out⟩
        · have h51 : (5 : Int) < (n : Int) := by omega
          have HX := Lib.hid (show S = (0, 8) by
            have e : stockE1 idle price sl.length = 8 := by rw [HE1.out, h1, h2, decide_eq_true (show 0 < n by omega), decide_eq_false (show ¬ (n : Int) ≤ 5 by omega)]; decide
            rw [HT.out, e]; rfl)
          go_enter Tryz.func59, Tryz.ntmps59
          go_wp2_with (go_at_call 17; refine (refWithin_any _ _ _ _).mono ?_; rintro e w' ⟨rfl, rfl⟩)
          go_ret2
          exact ⟨ret_ii (by rw [HX.out]; rfl) (by rw [HX.out]), HB0.out⟩


/-- A specification and a stock with not many more parts than permitted. -/
def FewP (rs : List DReq) (sl : List (List DPart)) : Prop := rs.length ≤ 8 ∧ sl.length ≤ 7 ∧ (∀ i, i < rs.length → (rs.getD i default).ts.length ≤ 6) ∧ ∀ i, i < sl.length → (sl.getD i []).length ≤ 8 ∧ ∀ k, k < (sl.getD i []).length → ((sl.getD i []).getD k default).name.size ≤ 20

def FewRet (w : World) (P : Prop) (e : Ending) (w' : World) : Prop := (∃ f : Bool, e = .returned (.bool f) ∧ (f = true ↔ P)) ∧ Below w.heap.size w w'

set_option maxHeartbeats 8000000 in
set_option maxRecDepth 100000 in
theorem few_any (B : Nat) (rs : List DReq) (RA : Option Addr) (rn rc : Nat) (sl : List (List DPart)) (A : Option Addr) (n c : Nat) (idle price : Int) (w : World) (hrr : ReqsIn B w RA rs) (hr : SlotsIn B w A sl) (hB : B ≤ w.heap.size) (hrn : rs.length = rn) (hn : sl.length = n) :
    Calls Tryz.prog 7 #[.agg #[.slice RA rn rc], .agg #[.slice A n c, .int .i64 idle, .int .i64 price]] w (FewRet w (FewP rs sl)) := by
  have HRR := Lib.hid hrr
  have HR := Lib.hid hr
  have HRN := Lib.hid hrn
  have HN := Lib.hid hn
  have HF := Lib.hid (show FewP rs sl ↔ rs.length ≤ 8 ∧ sl.length ≤ 7 ∧ (∀ i, i < rs.length → (rs.getD i default).ts.length ≤ 6) ∧ ∀ i, i < sl.length → (sl.getD i []).length ≤ 8 ∧ ∀ k, k < (sl.getD i []).length → ((sl.getD i []).getD k default).name.size ≤ 20 from Iff.rfl)
  clear hrr hr
  generalize FewP rs sl = FP at *
  have Q0 := Lib.hid (show Blk ((w.alloc (.cells #[.slice RA rn rc] 24)).alloc (.cells #[.slice A n c, .int .i64 idle, .int .i64 price] 27)) w.heap.size 24 #[.slice RA rn rc] from (Blk.newAt rfl).alloc)
  have R0 := Lib.hid (show Blk ((w.alloc (.cells #[.slice RA rn rc] 24)).alloc (.cells #[.slice A n c, .int .i64 idle, .int .i64 price] 27)) (w.heap.size + 1) 27 #[.slice A n c, .int .i64 idle, .int .i64 price] from Blk.newAt (by simp))
  have HB0 := Lib.hid (show Below w.heap.size w ((w.alloc (.cells #[.slice RA rn rc] 24)).alloc (.cells #[.slice A n c, .int .i64 idle, .int .i64 price] 27)) from pa (pa pr))
  have y0 := Q0.out.cellAt 0 rfl
  have yl := Q0.out.lt
  have x0 := R0.out.cellAt 0 rfl
  have xl := R0.out.lt
  by_cases h8 : rn ≤ 8
  · by_cases h7 : n ≤ 7
    · have h81 : ¬ (8 : Int) < (rn : Int) := by omega
      have h71 : ¬ (7 : Int) < (n : Int) := by omega
      go_enter Tryz.func7, Tryz.ntmps7
      go_wp2
      clear x0 xl y0 yl
      generalize ((w.alloc (.cells #[.slice RA rn rc] 24)).alloc (.cells #[.slice A n c, .int .i64 idle, .int .i64 price] 27)) = wo at *
      go_loop [5] (fun i => ∃ k : Nat, k ≤ rn ∧ i = .int .i64 (k : Int) ∧ ∀ j, j < k → (rs.getD j default).ts.length ≤ 6) (fun i => rn - (intOf i).toNat)
      case atStart => exact ⟨0, Nat.zero_le _, rfl, fun j hj => absurd hj (Nat.not_lt_zero _)⟩
      case round =>
        obtain ⟨k, hk, rfl, hall⟩ := hrel
        have HAll := Lib.hid hall
        clear hall
        have y0 := Q0.out.cellAt 0 rfl
        have yl := Q0.out.lt
        by_cases hlt : k < rn
        · have hk' : k < rs.length := by rw [hrn]; exact hlt
          obtain ⟨b, off, rfl, hb, hct⟩ := (HRR.out.below (HB0.out.mono hB)).at_ hk'
          obtain ⟨A', c', u0, -, -, -, -, -⟩ := hct k hk'
          have hbw : b < wo.heap.size := Nat.lt_of_lt_of_le (Nat.lt_of_lt_of_le hb hB) HB0.out.size
          have k0 : (0 : Int) ≤ (k : Int) := by omega
          have k1 : (k : Int) < (rn : Int) := by omega
          have HLe := Lib.hid (fun (h : (rs.getD k default).ts.length ≤ 6) j (hj : j < k + 1) => (show (rs.getD j default).ts.length ≤ 6 by
            rcases Nat.lt_or_ge j k with h2 | h2
            · exact HAll.out j h2
            · have e : j = k := by omega
              rw [e]; exact h))
          have HBad := Lib.hid (fun (h : ¬ (rs.getD k default).ts.length ≤ 6) => (show ¬ FP from fun hp => h ((HF.out.1 hp).2.2.1 k hk')))
          clear hct
          generalize (rs.getD k default).ts.length = m at *
          by_cases h6 : m ≤ 6
          · have h61 : ¬ (6 : Int) < (m : Int) := by omega
            go_wp2
            go_round
            case rel => exact ⟨k + 1, by omega, by go_num, HLe.out h6⟩
            case measure => simp [intOf]; omega
          · have h61 : (6 : Int) < (m : Int) := by omega
            go_wp2
            go_ret
            exact ⟨⟨false, rfl, ⟨fun h => Bool.noConfusion h, fun h => absurd h (HBad.out h6)⟩⟩, HB0.out⟩
        · have hkn : k = rn := by omega
          subst hkn
          go_wp2
          go_loop [6] (fun i => ∃ q : Nat, q ≤ n ∧ i = .int .i64 (q : Int) ∧ ∀ j, j < q → (sl.getD j []).length ≤ 8 ∧ ∀ k, k < (sl.getD j []).length → ((sl.getD j []).getD k default).name.size ≤ 20) (fun i => n - (intOf i).toNat)
          case atStart => exact ⟨0, Nat.zero_le _, rfl, fun j hj => absurd hj (Nat.not_lt_zero _)⟩
          case round =>
            obtain ⟨q, hq, rfl, hsl⟩ := hrel
            have HSl := Lib.hid hsl
            clear hsl y0 yl
            have x0 := R0.out.cellAt 0 rfl
            have xl := R0.out.lt
            by_cases hlq : q < n
            · have hq' : q < sl.length := by rw [hn]; exact hlq
              obtain ⟨b, off, rfl, hb, hct⟩ := (HR.out.below (HB0.out.mono hB)).at_ hq'
              obtain ⟨A', c', u0, hps, -⟩ := hct q hq'
              have hbw : b < wo.heap.size := Nat.lt_of_lt_of_le (Nat.lt_of_lt_of_le hb hB) HB0.out.size
              have q0 : (0 : Int) ≤ (q : Int) := by omega
              have q1 : (q : Int) < (n : Int) := by omega
              have HPs := Lib.hid hps
              have HLe := Lib.hid (fun (h : (sl.getD q []).length ≤ 8 ∧ ∀ k, k < (sl.getD q []).length → ((sl.getD q []).getD k default).name.size ≤ 20) j (hj : j < q + 1) => (show (sl.getD j []).length ≤ 8 ∧ ∀ k, k < (sl.getD j []).length → ((sl.getD j []).getD k default).name.size ≤ 20 by
                rcases Nat.lt_or_ge j q with h2 | h2
                · exact HSl.out j h2
                · have e : j = q := by omega
                  rw [e]; exact h))
              have HBad := Lib.hid (fun (h : ¬ ((sl.getD q []).length ≤ 8 ∧ ∀ k, k < (sl.getD q []).length → ((sl.getD q []).getD k default).name.size ≤ 20)) => (show ¬ FP from fun hp => h ((HF.out.1 hp).2.2.2 q hq')))
              clear hct hps
              generalize sl.getD q [] = l at *
              generalize hlm : l.length = m at *
              have HLm := Lib.hid hlm
              clear hlm
              by_cases h8m : m ≤ 8
              · have h81m : ¬ (8 : Int) < (m : Int) := by omega
                go_wp2
                go_loop [7] (fun i => ∃ r : Nat, r ≤ m ∧ i = .int .i64 (r : Int) ∧ ∀ j, j < r → (l.getD j default).name.size ≤ 20) (fun i => m - (intOf i).toNat)
                case atStart => exact ⟨0, Nat.zero_le _, rfl, fun j hj => absurd hj (Nat.not_lt_zero _)⟩
                case round =>
                  obtain ⟨r, hr, rfl, hnm⟩ := hrel
                  have HNm := Lib.hid hnm
                  clear hnm
                  by_cases hlr : r < m
                  · have hr' : r < l.length := by rw [HLm.out]; exact hlr
                    obtain ⟨b2, o2, rfl, hb2, hct⟩ := parts_at HPs.out hr'
                    have v0 := (part_cells (hct r hr')).1
                    have hb2w : b2 < wo.heap.size := Nat.lt_of_lt_of_le (Nat.lt_of_lt_of_le hb2 hB) HB0.out.size
                    have r0 : (0 : Int) ≤ (r : Int) := by omega
                    have r1 : (r : Int) < (m : Int) := by omega
                    have HLr := Lib.hid (fun (h : (l.getD r default).name.size ≤ 20) j (hj : j < r + 1) => (show (l.getD j default).name.size ≤ 20 by
                      rcases Nat.lt_or_ge j r with h2 | h2
                      · exact HNm.out j h2
                      · have e : j = r := by omega
                        rw [e]; exact h))
                    have HBr := Lib.hid (fun (h : ¬ (l.getD r default).name.size ≤ 20) => HBad.out (fun hp => h (hp.2 r hlr)))
                    clear hct
                    generalize (l.getD r default).name = s at *
                    by_cases h20 : s.size ≤ 20
                    · have h201 : ¬ (20 : Int) < (s.size : Int) := by omega
                      go_wp2
                      go_round
                      case rel => exact ⟨r + 1, by omega, by go_num, HLr.out h20⟩
                      case measure => simp [intOf]; omega
                    · have h201 : (20 : Int) < (s.size : Int) := by omega
                      go_wp2
                      go_ret
                      exact ⟨⟨false, rfl, ⟨fun h => Bool.noConfusion h, fun h => absurd h (HBr.out h20)⟩⟩, HB0.out⟩
                  · have hrm : r = m := by omega
                    subst hrm
                    have HL2 := Lib.hid (HLe.out ⟨h8m, HNm.out⟩)
                    go_wp2
                    go_round
                    case rel => exact ⟨q + 1, by omega, by go_num, HL2.out⟩
                    case measure => simp [intOf]; omega
              · have h81m : (8 : Int) < (m : Int) := by omega
                have HBq := Lib.hid (HBad.out (fun hp => h8m hp.1))
                go_wp2
                go_ret
                exact ⟨⟨false, rfl, ⟨fun h => Bool.noConfusion h, fun h => absurd h HBq.out⟩⟩, HB0.out⟩
            · have hqn : q = n := by omega
              subst hqn
              have HG := Lib.hid (HF.out.2 ⟨by rw [HRN.out]; exact h8, by rw [HN.out]; exact h7, fun i hi => HAll.out i (by rw [← HRN.out]; exact hi), fun i hi => HSl.out i (by rw [← HN.out]; exact hi)⟩)
              go_wp2
              go_ret
              exact ⟨⟨true, rfl, ⟨fun _ => HG.out, fun _ => rfl⟩⟩, HB0.out⟩
    · have h81 : ¬ (8 : Int) < (rn : Int) := by omega
      have h71 : (7 : Int) < (n : Int) := by omega
      have HBx := Lib.hid (show ¬ FP from fun hp => h7 (by have := (HF.out.1 hp).2.1; omega))
      go_enter Tryz.func7, Tryz.ntmps7
      go_wp2
      go_ret
      exact ⟨⟨false, rfl, ⟨fun h => Bool.noConfusion h, fun h => absurd h HBx.out⟩⟩, HB0.out⟩
  · have h81 : (8 : Int) < (rn : Int) := by omega
    have HBx := Lib.hid (show ¬ FP from fun hp => h8 (by have := (HF.out.1 hp).1; omega))
    go_enter Tryz.func7, Tryz.ntmps7
    go_wp2
    go_ret
    exact ⟨⟨false, rfl, ⟨fun h => Bool.noConfusion h, fun h => absurd h HBx.out⟩⟩, HB0.out⟩

end Go.Proofs.YtnfbdkdjoekifaaGreatDoor
end
