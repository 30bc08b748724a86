/- Contracts: the error of the terms of a requirement, of a specification, with and without its index; of a stock without its index (the specification of chapter 2). Printed by a program (gen_d8spec.py). -/
import Derived.Test.YtnfbdkdjoekifaaGreatDoorOk1
import Derived.Test.YtnfbdkdjoekifaaGreatDoorOb5

section
namespace Go.Proofs.YtnfbdkdjoekifaaGreatDoor
open Go.RowKit

/-- The error of the terms of a requirement. -/
def tE (r : DReq) : Int := if reqE1 r.ts.length ≠ 0 then reqE1 r.ts.length else (scan (termErrs r) r.ts.length 0).2
theorem reqE_tE (r : DReq) : reqE r = if tE r ≠ 0 then tE r else unlessV (withinB r.lim (-1000000000) 1000000000) 2 := by
  unfold reqE tE
  by_cases h : reqE1 r.ts.length = 0
  · simp [h]
  · simp [h]
theorem termE_f0 {q u : Int} {l : List DTerm} : termE ⟨0, q⟩ u l = 2 := by
  have h : termE1 ⟨0, q⟩ = 2 := by simp [termE1, firstV, unlessV]
  unfold termE
  rw [h, if_pos (by decide)]
theorem termE_f {f q u : Int} {l : List DTerm} (h : withinB f (-1000) 1000 = false) : termE ⟨f, q⟩ u l = 2 := by
  have h : termE1 ⟨f, q⟩ = 2 := by simp [termE1, firstV, unlessV, h]
  unfold termE
  rw [h, if_pos (by decide)]
theorem termE_q {f q u : Int} {l : List DTerm} (h0 : ¬ f = 0) (h : withinB f (-1000) 1000 = true) (hq : withinB q 0 5 = false) : termE ⟨f, q⟩ u l = 6 := by
  have h : termE1 ⟨f, q⟩ = 6 := by simp [termE1, firstV, unlessV, h, h0, hq]
  unfold termE
  rw [h, if_pos (by decide)]
theorem termE_u {f q u : Int} {l : List DTerm} (h0 : ¬ f = 0) (h : withinB f (-1000) 1000 = true) (hq : withinB q 0 5 = true) : termE ⟨f, q⟩ u l = if (unitQ q == u) = true then (if anyG (sameQ q) l = true then 23 else 0) else 15 := by
  have h : termE1 ⟨f, q⟩ = 0 := by simp [termE1, firstV, unlessV, h, h0, hq]
  unfold termE
  rw [h, if_neg (by decide)]
  unfold termE2
  cases (unitQ q == u)
  · simp [firstV, unlessV]
  · cases anyG (sameQ q) l <;> simp [firstV, unlessV]
theorem unitOf_at (q : Int) (h0 : 0 ≤ q) (h5 : q ≤ 5) (w : World) :
    Calls Tryz.prog 97 #[] w fun e w' => ∃ g, e = .returned (.slice (some ⟨g, 0, none⟩) 6 6) ∧ (g < w'.heap.size ∧ w'.cell? ⟨g, q.toNat, none⟩ = some (.int .i64 (unitQ q))) ∧ Below w.heap.size w w' := by
  go_enter Tryz.func97, Tryz.ntmps97
  go_wp2
  go_ret
  refine ⟨_, rfl, ⟨?_, ?_⟩, pa pr⟩
  · simp
  · rcases (show q = 0 ∨ q = 1 ∨ q = 2 ∨ q = 3 ∨ q = 4 ∨ q = 5 by omega) with rfl | rfl | rfl | rfl | rfl | rfl <;> exact (Blk.newAt rfl).cellAt _ rfl

set_option maxHeartbeats 8000000 in
set_option maxRecDepth 100000 in
theorem refTermsErr_any (B : Nat) (r : DReq) (A : Option Addr) (n c : Nat) (w : World) (hr : CellsIn B w A (termsC r.ts)) (hB : B ≤ w.heap.size) (hn : r.ts.length = n) (hm : n ≤ 1000) :
    Calls Tryz.prog 83 #[.agg #[.slice A n c, .bool r.ge, .int .i64 r.lim, .int .i64 r.unit]] w fun e w' => e = .returned (.int .i64 (tE r)) ∧ Below w.heap.size w w' := by
  obtain ⟨ts, ge, lim, unit⟩ := r
  dsimp only at *
  have HT := Lib.hid (show tE ⟨ts, ge, lim, unit⟩ = if reqE1 ts.length ≠ 0 then reqE1 ts.length else (scan (termErrs ⟨ts, ge, lim, unit⟩) ts.length 0).2 from rfl)
  have HR := Lib.hid hr
  have HN := Lib.hid hn
  have HE1 := Lib.hid (show reqE1 ts.length = firstV [unlessV (decide (0 < n)) 10, unlessV (decide ((n : Int) ≤ 4)) 8] by rw [← hn]; rfl)
  clear hr
  generalize tE ⟨ts, ge, lim, unit⟩ = E at *
  have R0 := Lib.hid (show Blk (w.alloc (.cells #[.slice A n c, .bool ge, .int .i64 lim, .int .i64 unit] 45)) w.heap.size 45 #[.slice A n c, .bool ge, .int .i64 lim, .int .i64 unit] from Blk.newAt rfl)
  have HB0 := Lib.hid (show Below w.heap.size w (w.alloc (.cells #[.slice A n c, .bool ge, .int .i64 lim, .int .i64 unit] 45)) from pa pr)
  have x0 := R0.out.cellAt 0 rfl
  have xl := R0.out.lt
  by_cases hz : n = 0
  · have HX := Lib.hid (show E = 10 by
      have h1 : reqE1 ts.length = 10 := by rw [HE1.out, hz]; decide
      rw [HT.out, h1, if_pos (by decide)])
    have hz1 : ((n : Int) == 0) = true := by simp [hz]
    clear HT HE1 hz
    go_enter Tryz.func83, Tryz.ntmps83
    go_wp2
    go_ret
    exact ⟨ret_int HX.out.symm, HB0.out⟩
  · have hz1 : ((n : Int) == 0) = false := beq_eq_false_iff_ne.2 (by omega)
    by_cases h6 : n ≤ 4
    · have h61 : ¬ (4 : Int) < (n : Int) := by omega
      have HE := Lib.hid (show E = (scan (termErrs ⟨ts, ge, lim, unit⟩) n 0).2 by
        have h1 : reqE1 ts.length = 0 := by rw [HE1.out, decide_eq_true (show 0 < n by omega), decide_eq_true (show (n : Int) ≤ 4 by omega)]; decide
        rw [HT.out, h1, if_neg (by decide), hn])
      have HF := Lib.hid (fun k => (show termErrs ⟨ts, ge, lim, unit⟩ k = termE (ts.getD k default) unit (ts.take k) from rfl))
      clear HT HE1 h6
      generalize termErrs ⟨ts, ge, lim, unit⟩ = F at *
      go_enter Tryz.func83, Tryz.ntmps83
      go_wp2
      clear x0 xl
      generalize (w.alloc (.cells #[.slice A n c, .bool ge, .int .i64 lim, .int .i64 unit] 45)) = wo at *
      go_loopw [3] (fun i wr => ∃ k : Nat, k ≤ n ∧ i = .int .i64 (k : Int) ∧ scan F n 0 = scan F n k ∧ Below wo.heap.size wo wr) (fun i _ => n - (intOf i).toNat)
      case atStart => exact ⟨0, Nat.zero_le _, rfl, rfl, pr⟩
      case round =>
        obtain ⟨k, hk, rfl, hf, hq⟩ := hrel
        have HQ := Lib.hid (pt HB0.out hq)
        have HQo := Lib.hid hq
        have RK := Lib.hid (R0.out.past hq)
        have x0 := RK.out.cellAt 0 rfl
        have xl := RK.out.lt
        clear hq
        by_cases hlt : k < n
        · have hk' : k < ts.length := by rw [hn]; exact hlt
          obtain ⟨b, off, rfl, hb, hct⟩ := terms_at (HR.out.below (HQ.out.mono hB)) hk'
          obtain ⟨u0, u1⟩ := hct k hk'
          have hbw : b < wr.heap.size := Nat.lt_of_lt_of_le (Nat.lt_of_lt_of_le hb hB) HQ.out.size
          have HS := Lib.hid (hf.trans (scan_step hlt))
          have HFk := HF.out k
          have HNm := Lib.hid (fun j (hj : j < n) => (show ∀ W, Below wr.heap.size wr W → W.cell? ⟨b, off + j * 2 + 1, none⟩ = some (.int .i64 (ts.getD j default).q) from fun W hW => ((hW.cell (p := ⟨b, off + j * 2 + 1, none⟩) hbw).trans (hct j (by rw [hn]; exact hj)).2)))
          have HTk := Lib.hid (fun p j (hj : j < n) => anyG_take (p := p) (xs := ts) (k := j) default (by rw [hn]; exact hj))
          have k0 : (0 : Int) ≤ (k : Int) := by omega
          have k1 : (k : Int) < (n : Int) := by omega
          clear hct hf
          generalize ts.getD k default = y at *
          obtain ⟨f, q⟩ := y
          have u0 : wr.cell? ⟨b, off + k * 2, none⟩ = some (.int .i64 f) := u0
          have u1 : wr.cell? ⟨b, off + k * 2 + 1, none⟩ = some (.int .i64 q) := u1
          have T0 := Lib.hid (show Blk (wr.alloc (.cells #[.int .i64 f, .int .i64 q] 64)) wr.heap.size 64 #[.int .i64 f, .int .i64 q] from Blk.newAt rfl)
          have HBa := Lib.hid (show Below w.heap.size w (wr.alloc (.cells #[.int .i64 f, .int .i64 q] 64)) from pa HQ.out)
          have RKa := Lib.hid (RK.out.alloc (o := .cells #[.int .i64 f, .int .i64 q] 64))
          have t0 := T0.out.cellAt 0 rfl
          have t1 := T0.out.cellAt 1 rfl
          have tl := T0.out.lt
          by_cases hf0 : f = 0
          · subst hf0
            have HRs := Lib.hid (show E = 2 by rw [HE.out, HS.out, HFk, termE_f0, if_neg (by decide)])
            have z1 : ((0 : Int) == 0) = true := rfl
            clear HFk HS HTk HNm
            go_wp2_with (go_at_call 17; refine (refWithin_any _ _ _ _).mono ?_; rintro e w' ⟨rfl, rfl⟩)
            go_ret
            exact ⟨ret_int HRs.out.symm, HBa.out⟩
          have f1 : (f == 0) = false := beq_eq_false_iff_ne.2 hf0
          cases hfw : withinB f (-1000) 1000
          · have HRs := Lib.hid (show E = 2 by rw [HE.out, HS.out, HFk, termE_f hfw, if_neg (by decide)])
            clear HFk HS HTk HNm
            go_wp2_with (go_at_call 17; refine (refWithin_any _ _ _ _).mono ?_; rintro e w' ⟨rfl, rfl⟩)
            go_ret
            exact ⟨ret_int HRs.out.symm, HBa.out⟩
          cases hqw : withinB q 0 5
          · have HRs := Lib.hid (show E = 6 by rw [HE.out, HS.out, HFk, termE_q hf0 hfw hqw, if_neg (by decide)])
            clear HFk HS HTk HNm
            go_wp2_with (go_at_call 17; refine (refWithin_any _ _ _ _).mono ?_; rintro e w' ⟨rfl, rfl⟩)
            go_ret
            exact ⟨ret_int HRs.out.symm, HBa.out⟩
          rw [termE_u hf0 hfw hqw] at HFk
          have hq05 : 0 ≤ q ∧ q ≤ 5 := by unfold withinB at hqw; simpa using hqw
          have hq6 : q < 6 := by omega
          go_wp2_with (go_at_call 17; refine (refWithin_any _ _ _ _).mono ?_; rintro e w' ⟨rfl, rfl⟩)
          have hbw2 : b < (wr.alloc (.cells #[.int .i64 f, .int .i64 q] 64)).heap.size := by simp; omega
          have HNa := Lib.hid (fun j (hj : j < n) W (hW : Below (wr.alloc (.cells #[.int .i64 f, .int .i64 q] 64)).heap.size (wr.alloc (.cells #[.int .i64 f, .int .i64 q] 64)) W) => HNm.out j hj W (pt (pa pr) hW))
          have HQa := Lib.hid (pa (o := .cells #[.int .i64 f, .int .i64 q] 64) HQo.out)
          clear HNm x0 xl u0 u1 t0 t1 tl RK HQ HQo
          generalize htb : wr.heap.size = tb at T0 ⊢
          generalize wr.alloc (.cells #[.int .i64 f, .int .i64 q] 64) = wa at *
          clear htb
          have x3 := RKa.out.cellAt 3 rfl
          have xl := RKa.out.lt
          have t1 := T0.out.cellAt 1 rfl
          have tl := T0.out.lt
          generalize hu : (unitQ q == unit) = bu at *
          have hu2 : (unitQ q != unit) = !bu := by rw [← hu]; rfl
          clear hu
          replace HFk := Lib.hid HFk
          cases bu
          · have h2 : F k = 15 := by rw [HFk.out, if_neg (by decide)]
            have HRs := Lib.hid (show E = 15 by rw [HE.out, HS.out, h2, if_neg (by decide)])
            clear h2
            have hu3 : (!false) = true := rfl
            rw [hu3] at hu2
            clear HFk HS HTk hu3
            have HSS := Lib.hid (show ∀ W, Below wa.heap.size wa W → W.cell? ⟨tb, 1, none⟩ = some (.int .i64 q) ∧ W.cell? ⟨w.heap.size, 3, none⟩ = some (.int .i64 unit) from fun W hW => ⟨(T0.out.past hW).cellAt 1 rfl, (RKa.out.past hW).cellAt 3 rfl⟩)
            refine wp_region_G 7 follows_mixed (fun W => W.cell? ⟨tb, 1, none⟩ = some (.int .i64 q) ∧ W.cell? ⟨w.heap.size, 3, none⟩ = some (.int .i64 unit)) (HSS.out _ (pd pr)) ?_
            intro hSd inv
            have HSd := Lib.hid hSd
            clear hSd
            have HB0 := Lib.hid (show Below wa.heap.size wa wa.drew from pd pr)
            refine wpAnyG_take (i := 1) (v := ?_) rfl (by kernel_rfl) (by kernel_rfl) (by kernel_rfl) (by kernel_rfl) (by kernel_rfl) (by decide) (by decide) inv (fun _ _ _ h => h) (Or.inl ⟨by rfl, ?_⟩) HSd.out ?_; rotate_left; (focus (intro W y1; obtain ⟨y1, y2⟩ := y1; go_simp; (first | done | with_reducible rfl))); clear inv; intro inv; simp only [List.getElem_toArray, List.getElem_cons_zero, List.getElem_cons_succ, Act.put, List.setIfInBounds_toArray, List.set_cons_zero, List.set_cons_succ]
            refine wpAnyG_take (i := 2) (v := ?_) rfl (by kernel_rfl) (by kernel_rfl) (by kernel_rfl) (by kernel_rfl) (by kernel_rfl) (by decide) (by decide) inv (fun _ _ _ h => h) (Or.inl ⟨by rfl, ?_⟩) HSd.out ?_; rotate_left; (focus (intro W y1; obtain ⟨y1, y2⟩ := y1; go_simp; (first | done | with_reducible rfl))); clear inv; intro inv; simp only [List.getElem_toArray, List.getElem_cons_zero, List.getElem_cons_succ, Act.put, List.setIfInBounds_toArray, List.set_cons_zero, List.set_cons_succ]
            refine wpAnyG_take (i := 5) (v := ?_) rfl (by kernel_rfl) (by kernel_rfl) (by kernel_rfl) (by kernel_rfl) (by kernel_rfl) (by decide) (by decide) inv (fun _ _ _ h => h) (Or.inl ⟨by rfl, ?_⟩) HSd.out ?_; rotate_left; (focus (intro W y1; obtain ⟨y1, y2⟩ := y1; go_simp; (first | done | with_reducible rfl))); clear inv; intro inv; simp only [List.getElem_toArray, List.getElem_cons_zero, List.getElem_cons_succ, Act.put, List.setIfInBounds_toArray, List.set_cons_zero, List.set_cons_succ]
            refine wpAnyG_take (i := 6) (v := ?_) rfl (by kernel_rfl) (by kernel_rfl) (by kernel_rfl) (by kernel_rfl) (by kernel_rfl) (by decide) (by decide) inv (fun _ _ _ h => h) (Or.inl ⟨by rfl, ?_⟩) HSd.out ?_; rotate_left; (focus (intro W y1; obtain ⟨y1, y2⟩ := y1; go_simp; (first | done | with_reducible rfl))); clear inv; intro inv; simp only [List.getElem_toArray, List.getElem_cons_zero, List.getElem_cons_succ, Act.put, List.setIfInBounds_toArray, List.set_cons_zero, List.set_cons_succ]
            have HInv := Lib.hid inv
            clear inv
            refine wpAnyG_one (i := 0) (by kernel_rfl) rfl rfl fun K hK => ?_
            go_simp
            refine (unitOf_at q hq05.1 hq05.2 _).mono ?_
            rintro e w5 ⟨g5, rfl, ⟨gl5, gc5⟩, hb⟩
            have HBx0 := Lib.hid (show Below wa.heap.size wa w5 from pt HB0.out hb)
            refine hK.out _ _ (fun _ => HSS.out _ HBx0.out) ?_
            clear hK K hb
            refine wpAnyG_one (i := 3) (by kernel_rfl) rfl rfl fun K hK => ?_
            go_simp
            refine hK.out _ _ (fun _ => HSS.out _ HBx0.out) ?_
            clear hK K
            refine wpAnyG_one (i := 4) (by kernel_rfl) rfl rfl fun K hK => ?_
            go_simp
            refine hK.out _ _ (fun _ => HSS.out _ HBx0.out) ?_
            clear hK K
            refine wpAnyG_one (i := 7) (by kernel_rfl) rfl rfl fun K hK => ?_
            go_simp
            refine hK.out _ _ (fun h => absurd h (by decide)) ?_
            clear hK K
            refine wpAnyG_done (by kernel_rfl) ?_
            clear HInv
            clear HSS HSd HB0
            have HB5 := Lib.hid (show Below w.heap.size w w5 from pt HBa.out HBx0.out)
            go_wp2
            go_ret
            exact ⟨ret_int HRs.out.symm, HB5.out⟩
          · have hu3 : (!true) = false := rfl
            rw [hu3] at hu2
            replace HFk := Lib.hid (show F k = if anyG (sameQ q) (ts.take k) = true then 23 else 0 by rw [HFk.out, if_pos rfl])
            clear hu3
            have HSS := Lib.hid (show ∀ W, Below wa.heap.size wa W → W.cell? ⟨tb, 1, none⟩ = some (.int .i64 q) ∧ W.cell? ⟨w.heap.size, 3, none⟩ = some (.int .i64 unit) from fun W hW => ⟨(T0.out.past hW).cellAt 1 rfl, (RKa.out.past hW).cellAt 3 rfl⟩)
            refine wp_region_G 7 follows_mixed (fun W => W.cell? ⟨tb, 1, none⟩ = some (.int .i64 q) ∧ W.cell? ⟨w.heap.size, 3, none⟩ = some (.int .i64 unit)) (HSS.out _ (pd pr)) ?_
            intro hSd inv
            have HSd := Lib.hid hSd
            clear hSd
            have HB0 := Lib.hid (show Below wa.heap.size wa wa.drew from pd pr)
            refine wpAnyG_take (i := 1) (v := ?_) rfl (by kernel_rfl) (by kernel_rfl) (by kernel_rfl) (by kernel_rfl) (by kernel_rfl) (by decide) (by decide) inv (fun _ _ _ h => h) (Or.inl ⟨by rfl, ?_⟩) HSd.out ?_; rotate_left; (focus (intro W y1; obtain ⟨y1, y2⟩ := y1; go_simp; (first | done | with_reducible rfl))); clear inv; intro inv; simp only [List.getElem_toArray, List.getElem_cons_zero, List.getElem_cons_succ, Act.put, List.setIfInBounds_toArray, List.set_cons_zero, List.set_cons_succ]
            refine wpAnyG_take (i := 2) (v := ?_) rfl (by kernel_rfl) (by kernel_rfl) (by kernel_rfl) (by kernel_rfl) (by kernel_rfl) (by decide) (by decide) inv (fun _ _ _ h => h) (Or.inl ⟨by rfl, ?_⟩) HSd.out ?_; rotate_left; (focus (intro W y1; obtain ⟨y1, y2⟩ := y1; go_simp; (first | done | with_reducible rfl))); clear inv; intro inv; simp only [List.getElem_toArray, List.getElem_cons_zero, List.getElem_cons_succ, Act.put, List.setIfInBounds_toArray, List.set_cons_zero, List.set_cons_succ]
            refine wpAnyG_take (i := 5) (v := ?_) rfl (by kernel_rfl) (by kernel_rfl) (by kernel_rfl) (by kernel_rfl) (by kernel_rfl) (by decide) (by decide) inv (fun _ _ _ h => h) (Or.inl ⟨by rfl, ?_⟩) HSd.out ?_; rotate_left; (focus (intro W y1; obtain ⟨y1, y2⟩ := y1; go_simp; (first | done | with_reducible rfl))); clear inv; intro inv; simp only [List.getElem_toArray, List.getElem_cons_zero, List.getElem_cons_succ, Act.put, List.setIfInBounds_toArray, List.set_cons_zero, List.set_cons_succ]
            refine wpAnyG_take (i := 6) (v := ?_) rfl (by kernel_rfl) (by kernel_rfl) (by kernel_rfl) (by kernel_rfl) (by kernel_rfl) (by decide) (by decide) inv (fun _ _ _ h => h) (Or.inl ⟨by rfl, ?_⟩) HSd.out ?_; rotate_left; (focus (intro W y1; obtain ⟨y1, y2⟩ := y1; go_simp; (first | done | with_reducible rfl))); clear inv; intro inv; simp only [List.getElem_toArray, List.getElem_cons_zero, List.getElem_cons_succ, Act.put, List.setIfInBounds_toArray, List.set_cons_zero, List.set_cons_succ]
            have HInv := Lib.hid inv
            clear inv
            refine wpAnyG_one (i := 0) (by kernel_rfl) rfl rfl fun K hK => ?_
            go_simp
            refine (unitOf_at q hq05.1 hq05.2 _).mono ?_
            rintro e w5 ⟨g5, rfl, ⟨gl5, gc5⟩, hb⟩
            have HBx0 := Lib.hid (show Below wa.heap.size wa w5 from pt HB0.out hb)
            refine hK.out _ _ (fun _ => HSS.out _ HBx0.out) ?_
            clear hK K hb
            refine wpAnyG_one (i := 3) (by kernel_rfl) rfl rfl fun K hK => ?_
            go_simp
            refine hK.out _ _ (fun _ => HSS.out _ HBx0.out) ?_
            clear hK K
            refine wpAnyG_one (i := 4) (by kernel_rfl) rfl rfl fun K hK => ?_
            go_simp
            refine hK.out _ _ (fun _ => HSS.out _ HBx0.out) ?_
            clear hK K
            refine wpAnyG_one (i := 7) (by kernel_rfl) rfl rfl fun K hK => ?_
            go_simp
            refine hK.out _ _ (fun h => absurd h (by decide)) ?_
            clear hK K
            refine wpAnyG_done (by kernel_rfl) ?_
            clear HInv
            clear HSS HSd HB0
            have HBw5 := HBx0
            clear gl5 gc5 t1 x3 tl xl HBx0
            have HB5 := Lib.hid (pt HBa.out HBw5.out)
            have T5 := Lib.hid (T0.out.past HBw5.out)
            have R5 := Lib.hid (RKa.out.past HBw5.out)
            have HQ5 := Lib.hid (pt HQa.out HBw5.out)
            have HN5 := Lib.hid (fun j (hj : j < n) W (hW : Below w5.heap.size w5 W) => HNa.out j hj W (pt HBw5.out hW))
            have hb5 : b < w5.heap.size := Nat.lt_of_lt_of_le hbw2 HBw5.out.size
            go_wp2
            clear HNa HBw5 T0 RKa HBa HQa
            generalize wr = wx at *
            go_loopw [5] (fun jv wr => ∃ j : Nat, jv = .int .i64 (j : Int) ∧ j ≤ k ∧ anyG (sameQ q) (ts.take j) = false ∧ Below w5.heap.size w5 wr) (fun jv _ => k - (intOf jv).toNat)
            case atStart => exact ⟨0, rfl, Nat.zero_le _, rfl, pr⟩
            case round =>
              obtain ⟨j, rfl, hj, hany, hab⟩ := hrel
              have HAb := Lib.hid hab
              have HAny := Lib.hid hany
              have hbr : b < wr.heap.size := Nat.lt_of_lt_of_le hb5 hab.size
              have T6 := Lib.hid (T5.out.past hab)
              have R6 := Lib.hid (R5.out.past hab)
              clear hab hany
              by_cases hjk : j < k
              · have a0 := HN5.out j (by omega) wr HAb.out
                have HTj := Lib.hid (HTk.out (sameQ q) j (by omega))
                generalize ts.getD j default = z at *
                obtain ⟨zf, zq⟩ := z
                have a0 : wr.cell? ⟨b, off + j * 2 + 1, none⟩ = some (.int .i64 zq) := a0
                have j0 : (0 : Int) ≤ (j : Int) := by omega
                have j1 : (j : Int) < (n : Int) := by omega
                have j2 : (j : Int) < (k : Int) := by omega
                have x0 := R6.out.cellAt 0 rfl
                have xl := R6.out.lt
                have t1 := T6.out.cellAt 1 rfl
                have tl := T6.out.lt
                have HSm2 := Lib.hid (show sameQ q ⟨zf, zq⟩ = decide (zq = q) from rfl)
                by_cases hss : zq = q
                · have hss2 : (zq == q) = true := by simpa using hss
                  have HT2 := Lib.hid (show anyG (sameQ q) (ts.take (j + 1)) = true by rw [HTj.out, HAny.out, HSm2.out, decide_eq_true hss]; rfl)
                  have HRs := Lib.hid (show E = 23 by
                    have h2 : anyG (sameQ q) (ts.take k) = true := by
                      unfold anyG at HT2 ⊢
                      obtain ⟨x, hx, hy⟩ := List.any_eq_true.1 HT2.out
                      exact List.any_eq_true.2 ⟨x, (List.take_subset_take_left ts (show j + 1 ≤ k by omega)) hx, hy⟩
                    have h3 : F k = 23 := by rw [HFk.out, h2, if_pos rfl]
                    rw [HE.out, HS.out, h3, if_neg (by decide)])
                  clear hss
                  go_wp2
                  refine region_below 8 follows_mixed (by kernel_rfl) ?_
                  intro C hC
                  simp only [List.take_succ_cons, List.take_zero, List.drop_succ_cons, List.drop_zero]
                  repeat (first
                    | ((with_reducible refine quiet_plain rfl (fun K hK => ?_)); (focus (apply quiet_val; (focus (intro w' hw; obtain ⟨hcq, hfq⟩ := bcell ((hC.out _).1 hw); go_simp; (first | done | rfl))); (simp only [Act.put, List.setIfInBounds_toArray, List.set_cons_succ, List.set_cons_zero]); (with_reducible refine hK _ ?_); clear hK K)))
                    | ((with_reducible refine quiet_skip ?_ ?_); (focus (first | (simp [Region.wanted, yielded]; done) | (simp [Region.wanted, yielded, undef]; done))); simp only [Act.put, List.setIfInBounds_toArray, List.set_cons_succ, List.set_cons_zero])
                    | ((with_reducible refine quiet_go ?_ (fun K hK => ?_)); (focus (first | (simp [Region.wanted, yielded]; done) | (simp [Region.wanted, yielded, undef]; done))); (focus (apply quiet_val; (focus (intro w' hw; obtain ⟨hcq, hfq⟩ := bcell ((hC.out _).1 hw); go_simp; (first | done | rfl))); (simp only [Act.put, List.setIfInBounds_toArray, List.set_cons_succ, List.set_cons_zero]); (with_reducible refine hK _ ?_); clear hK K))))
                  refine wpQuiet_nil ?_
                  intro w1 hb1
                  replace hb1 := (hC.out _).1 hb1
                  clear hC C
                  obtain ⟨hc1, hf1⟩ := bcell hb1
                  have HAc := Lib.hid (pt (pt HB5.out HAb.out) hb1)
                  clear hb1 hc1 hf1
                  go_wp2
                  go_ret
                  exact ⟨ret_int HRs.out.symm, HAc.out⟩
                · have hss2 : (zq == q) = false := by simpa using hss
                  have HT2 := Lib.hid (show anyG (sameQ q) (ts.take (j + 1)) = false by rw [HTj.out, HAny.out, HSm2.out, decide_eq_false hss]; rfl)
                  clear hss
                  go_wp2
                  refine region_below 8 follows_mixed (by kernel_rfl) ?_
                  intro C hC
                  simp only [List.take_succ_cons, List.take_zero, List.drop_succ_cons, List.drop_zero]
                  repeat (first
                    | ((with_reducible refine quiet_plain rfl (fun K hK => ?_)); (focus (apply quiet_val; (focus (intro w' hw; obtain ⟨hcq, hfq⟩ := bcell ((hC.out _).1 hw); go_simp; (first | done | rfl))); (simp only [Act.put, List.setIfInBounds_toArray, List.set_cons_succ, List.set_cons_zero]); (with_reducible refine hK _ ?_); clear hK K)))
                    | ((with_reducible refine quiet_skip ?_ ?_); (focus (first | (simp [Region.wanted, yielded]; done) | (simp [Region.wanted, yielded, undef]; done))); simp only [Act.put, List.setIfInBounds_toArray, List.set_cons_succ, List.set_cons_zero])
                    | ((with_reducible refine quiet_go ?_ (fun K hK => ?_)); (focus (first | (simp [Region.wanted, yielded]; done) | (simp [Region.wanted, yielded, undef]; done))); (focus (apply quiet_val; (focus (intro w' hw; obtain ⟨hcq, hfq⟩ := bcell ((hC.out _).1 hw); go_simp; (first | done | rfl))); (simp only [Act.put, List.setIfInBounds_toArray, List.set_cons_succ, List.set_cons_zero]); (with_reducible refine hK _ ?_); clear hK K))))
                  refine wpQuiet_nil ?_
                  intro w1 hb1
                  replace hb1 := (hC.out _).1 hb1
                  clear hC C
                  obtain ⟨hc1, hf1⟩ := bcell hb1
                  have HAc := Lib.hid (pt HAb.out hb1)
                  clear hb1 hc1 hf1
                  go_wp2
                  go_roundw
                  case rel => exact ⟨j + 1, by go_num, by omega, HT2.out, HAc.out⟩
                  case measure => simp [intOf]; omega
              · have hjk2 : j = k := by omega
                subst hjk2
                have HS2 := Lib.hid (show scan F n 0 = scan F n (j + 1) by
                  have h3 : F j = 0 := by rw [HFk.out, HAny.out, if_neg (by decide)]
                  rw [HS.out, h3, if_pos rfl])
                have HBe := Lib.hid (pt HQ5.out HAb.out)
                clear HFk HTk HN5
                go_wp2
                go_roundw
                case rel => exact ⟨j + 1, by omega, by go_num, HS2.out, HBe.out⟩
                case measure => simp [intOf]; omega
        · have HRs := Lib.hid (show E = 0 by rw [HE.out, hf, scan_end (by omega)])
          clear hf
          go_wp2
          go_ret
          exact ⟨ret_int HRs.out.symm, HQ.out⟩
    · have h61 : (4 : Int) < (n : Int) := by omega
      have HX := Lib.hid (show E = 8 by
        have h1 : reqE1 ts.length = 8 := by rw [HE1.out, decide_eq_true (show 0 < n by omega), decide_eq_false (show ¬ (n : Int) ≤ 4 by omega)]; decide
        rw [HT.out, h1, if_pos (by decide)])
      clear HT HE1
      go_enter Tryz.func83, Tryz.ntmps83
      go_wp2
      go_ret
      exact ⟨ret_int HX.out.symm, HB0.out⟩

set_option maxHeartbeats 8000000 in
set_option maxRecDepth 100000 in
theorem refCheckSpec_any (B : Nat) (rs : List DReq) (A : Option Addr) (n c : Nat) (w : World) (hr : ReqsIn B w A rs) (hB : B ≤ w.heap.size) (hn : rs.length = n) (hm : n ≤ 1000) (hs : ∀ r ∈ rs, r.ts.length ≤ 1000) :
    Calls Tryz.prog 58 #[.agg #[.slice A n c]] w fun e w' => e = .returned (.tuple #[.int .i64 ((specE rs).1 : Int), .int .i64 (specE rs).2]) ∧ Below w.heap.size w w' := by
  have HT := Lib.hid (show specE rs = if specE1 rs.length ≠ 0 then (0, specE1 rs.length) else scan (reqErrs rs) rs.length 0 from rfl)
  have HR := Lib.hid hr
  have HSm := Lib.hid hs
  have HE1 := Lib.hid (show specE1 rs.length = firstV [unlessV (decide (0 < n)) 10, unlessV (decide ((n : Int) ≤ 6)) 8] by rw [← hn]; rfl)
  have HN := Lib.hid hn
  clear hr hs
  generalize specE rs = S at *
  have R0 := Lib.hid (show Blk (w.alloc (.cells #[.slice A n c] 24)) w.heap.size 24 #[.slice A n c] from Blk.newAt rfl)
  have HB0 := Lib.hid (show Below w.heap.size w (w.alloc (.cells #[.slice A n c] 24)) from pa pr)
  have x0 := R0.out.cellAt 0 rfl
  have xl := R0.out.lt
  by_cases hz : n = 0
  · have HX := Lib.hid (show S = (0, 10) by
      have e : specE1 rs.length = 10 := by rw [HE1.out, hz]; decide
      rw [HT.out, e]; rfl)
    have hz1 : ((n : Int) == 0) = true := by simp [hz]
    clear hz
    go_enter Tryz.func58, Tryz.ntmps58
    go_wp2_with (go_at_call 17; refine (refWithin_any _ _ _ _).mono ?_; rintro e w' ⟨rfl, rfl⟩)
    go_ret2
    exact ⟨ret_ii (by rw [HX.out]; rfl) (by rw [HX.out]), HB0.out⟩
  · have hz1 : ((n : Int) == 0) = false := beq_eq_false_iff_ne.2 (by omega)
    by_cases h5 : n ≤ 6
    · have h51 : ¬ (6 : Int) < (n : Int) := by omega
      have HX := Lib.hid (show S = scan (reqErrs rs) n 0 by
        have e : specE1 rs.length = 0 := by rw [HE1.out, decide_eq_true (show 0 < n by omega), decide_eq_true (show (n : Int) ≤ 6 by omega)]; decide
        rw [HT.out, e, if_neg (by decide), hn])
      clear HT HE1
      go_enter Tryz.func58, Tryz.ntmps58
      go_wp2_with (go_at_call 17; refine (refWithin_any _ _ _ _).mono ?_; rintro e w' ⟨rfl, rfl⟩)
      clear x0 xl
      generalize (w.alloc (.cells #[.slice A n c] 24)) = wo at *
      go_loopw [4] (fun i wr => ∃ k : Nat, k ≤ n ∧ i = .int .i64 (k : Int) ∧ scan (reqErrs rs) n 0 = scan (reqErrs rs) n k ∧ Below wo.heap.size wo wr) (fun i _ => n - (intOf i).toNat)
      case atStart => exact ⟨0, Nat.zero_le _, rfl, rfl, pr⟩
      case round =>
        obtain ⟨k, hk, rfl, hf, hq⟩ := hrel
        have HQ := Lib.hid (pt HB0.out hq)
        have HQo := Lib.hid hq
        have RK := Lib.hid (R0.out.past hq)
        have x0 := RK.out.cellAt 0 rfl
        have xl := RK.out.lt
        clear hq
        by_cases hlt : k < n
        · have hk' : k < rs.length := by rw [hn]; exact hlt
          obtain ⟨b, off, rfl, hb, hct⟩ := (HR.out.below (HQ.out.mono hB)).at_ hk'
          obtain ⟨A', c', u0, u1, u2, u3, hts, hcap⟩ := hct k hk'
          have HS := Lib.hid (hf.trans (scan_step hlt))
          have hFk : reqErrs rs k = reqE (rs.getD k default) := rfl
          rw [reqE_tE] at hFk
          have hl := HSm.out _ (getD_mem' hk')
          have HCt := Lib.hid (fun W (hW : Below wr.heap.size wr W) => refTermsErr_any B (rs.getD k default) A' _ c' W (hts.below (hW.mono (Nat.le_trans hB HQ.out.size))) (Nat.le_trans hB (Nat.le_trans HQ.out.size hW.size)) rfl hl)
          have hbw : b < wr.heap.size := Nat.lt_of_lt_of_le (Nat.lt_of_lt_of_le hb hB) HQ.out.size
          have k0 : (0 : Int) ≤ (k : Int) := by omega
          have k1 : (k : Int) < (n : Int) := by omega
          clear hct hts hf hcap
          generalize rs.getD k default = r at *
          generalize reqErrs rs k = e at *
          generalize tE r = te at *
          obtain ⟨ts, ge, lim, unit⟩ := r
          dsimp only at *
          have HFk := Lib.hid hFk
          have HU := Lib.hid (fun W (hW : Below wr.heap.size wr W) => ((hW.cell (p := ⟨b, off + k * 4 + 2, none⟩) hbw).trans u2))
          clear hFk
          by_cases he : te = 0
          · have he1 : (te != 0) = false := by simp [he]
            cases hw : withinB lim (-1000000000) 1000000000
            · have HRs := Lib.hid (show S = (k, 2) by
                have h2 : e = 2 := by rw [HFk.out, he, hw]; decide
                rw [HX.out, HS.out, h2, if_neg (by decide)])
              clear he
              go_wp2_with (first
                | (go_at_call 83; refine (HCt.out _ pr).mono ?_; rintro e w2 ⟨rfl, hb2⟩; have HB2 := Lib.hid (pt HQ.out hb2); have v0 := (RK.out.past hb2).cellAt 0 rfl; have v1 := (RK.out.past hb2).lt; have v2 := HU.out _ hb2; have v3 := Nat.lt_of_lt_of_le hbw hb2.size; clear x0 u0 u1 u2 u3 hb2)
                | (go_at_call 17; refine (refWithin_any _ _ _ _).mono ?_; rintro e w' ⟨rfl, rfl⟩))
              go_ret2
              exact ⟨ret_ii (by rw [HRs.out]) (by rw [HRs.out]), HB2.out⟩
            · have HS2 := Lib.hid (show scan (reqErrs rs) n 0 = scan (reqErrs rs) n (k + 1) by
                have h2 : e = 0 := by rw [HFk.out, he, hw]; decide
                rw [HS.out, h2, if_pos rfl])
              clear he
              go_wp2_with (first
                | (go_at_call 83; refine (HCt.out _ pr).mono ?_; rintro e w2 ⟨rfl, hb2⟩; have HB2 := Lib.hid (pt HQo.out hb2); have v0 := (RK.out.past hb2).cellAt 0 rfl; have v1 := (RK.out.past hb2).lt; have v2 := HU.out _ hb2; have v3 := Nat.lt_of_lt_of_le hbw hb2.size; clear x0 u0 u1 u2 u3 hb2)
                | (go_at_call 17; refine (refWithin_any _ _ _ _).mono ?_; rintro e w' ⟨rfl, rfl⟩))
              go_roundw
              case rel => exact ⟨k + 1, by omega, by go_num, HS2.out, HB2.out⟩
              case measure => simp [intOf]; omega
          · have HRs := Lib.hid (show S = (k, te) by rw [HX.out, HS.out, HFk.out, if_pos he, if_neg he])
            have he1 : (te != 0) = true := by simpa using he
            clear he
            go_wp2_with (go_at_call 83; refine (HCt.out _ pr).mono ?_; rintro e w2 ⟨rfl, hb2⟩; have HB2 := Lib.hid (pt HQ.out hb2); clear hb2)
            go_ret2
            exact ⟨ret_ii (by rw [HRs.out]) (by rw [HRs.out]), HB2.out⟩
        · have HRs := Lib.hid (show S = (0, 0) by rw [HX.out, hf, scan_end (by omega)])
          clear hf
          go_wp2
          go_ret2
          exact ⟨ret_ii (by rw [HRs.out]; rfl) (by rw [HRs.out]), HQ.out⟩
    · have h51 : (6 : Int) < (n : Int) := by omega
      have HX := Lib.hid (show S = (0, 8) by
        have e : specE1 rs.length = 8 := by rw [HE1.out, decide_eq_true (show 0 < n by omega), decide_eq_false (show ¬ (n : Int) ≤ 6 by omega)]; decide
        rw [HT.out, e]; rfl)
      go_enter Tryz.func58, Tryz.ntmps58
      go_wp2_with (go_at_call 17; refine (refWithin_any _ _ _ _).mono ?_; rintro e w' ⟨rfl, rfl⟩)
      go_ret2
      exact ⟨ret_ii (by rw [HX.out]; rfl) (by rw [HX.out]), HB0.out⟩

theorem refSpecErr_any (B : Nat) (rs : List DReq) (A : Option Addr) (n c : Nat) (w : World) (hr : ReqsIn B w A rs) (hB : B ≤ w.heap.size) (hn : rs.length = n) (hm : n ≤ 1000) (hs : ∀ r ∈ rs, r.ts.length ≤ 1000) :
    Calls Tryz.prog 31 #[.agg #[.slice A n c]] w fun e w' => e = .returned (.int .i64 (specE rs).2) ∧ Below w.heap.size w w' := by
  have HC := Lib.hid (fun W (hW : Below w.heap.size w W) => refCheckSpec_any B rs A n c W (hr.below (hW.mono hB)) (Nat.le_trans hB hW.size) hn hm hs)
  clear hr hs hn
  generalize specE rs = S at *
  go_enter Tryz.func31, Tryz.ntmps31
  go_wp2_with (go_at_call 58; refine (HC.out _ (pa pr)).mono ?_; rintro e w2 ⟨rfl, hb2⟩; have HB2 := Lib.hid (pt (pa pr) hb2); clear hb2)
  go_ret
  exact ⟨rfl, HB2.out⟩

theorem refStockErr_any (B : Nat) (sl : List (List DPart)) (A : Option Addr) (n c : Nat) (idle price : Int) (w : World) (hr : SlotsIn B w A sl) (hB : B ≤ w.heap.size) (hn : sl.length = n) (hs : n ≤ 1000 → SmallSlots sl) :
    Calls Tryz.prog 32 #[.agg #[.slice A n c, .int .i64 idle, .int .i64 price]] w fun e w' => e = .returned (.int .i64 (stockE idle price sl).2) ∧ Below w.heap.size w w' := by
  have HC := Lib.hid (fun W (hW : Below w.heap.size w W) => refCheckStock_any B sl A n c idle price W (hr.below (hW.mono hB)) (Nat.le_trans hB hW.size) hn hs)
  clear hr hs hn
  generalize stockE idle price sl = S at *
  go_enter Tryz.func32, Tryz.ntmps32
  go_wp2_with (go_at_call 59; refine (HC.out _ (pa pr)).mono ?_; rintro e w2 ⟨rfl, hb2⟩; have HB2 := Lib.hid (pt (pa pr) hb2); clear hb2)
  go_ret
  exact ⟨rfl, HB2.out⟩

end Go.Proofs.YtnfbdkdjoekifaaGreatDoor
end
