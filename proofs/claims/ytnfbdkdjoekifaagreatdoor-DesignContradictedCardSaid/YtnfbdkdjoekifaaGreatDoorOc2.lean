/- Contract: the bound of prices (package design). Printed by a program (gen_d2bound.py). -/
import Derived.Test.YtnfbdkdjoekifaaGreatDoorOb7
import Derived.Test.YtnfbdkdjoekifaaGreatDoorOc1

section
namespace Go.Proofs.YtnfbdkdjoekifaaGreatDoor
open Go.RowKit

theorem payV_snoc (f : DReq → Int) : ∀ (rs : List DReq) (ps : List Int) (k : Nat), k < rs.length → k < ps.length → payV (rs.take (k + 1)) (ps.take (k + 1)) f = payV (rs.take k) (ps.take k) f + ps.getD k 0 * f (rs.getD k default)
  | [], _, _, h, _ => by simp at h
  | _ :: _, [], _, _, h => by simp at h
  | r :: rs, x :: ps, 0, _, _ => by simp [payV]
  | r :: rs, x :: ps, k + 1, h1, h2 => by
    have ih := payV_snoc f rs ps k (by simpa using h1) (by simpa using h2)
    rw [List.take_succ_cons, List.take_succ_cons, List.take_succ_cons, List.take_succ_cons, payV, payV, ih, List.getD_cons_succ, List.getD_cons_succ]
    omega
theorem payV_bd {f : DReq → Int} {M : Int} {rs : List DReq} {ps : List Int} (hM : 0 ≤ M) (hf : ∀ r ∈ rs, -M ≤ f r ∧ f r ≤ M) (hp : ∀ x ∈ ps, 0 ≤ x ∧ x ≤ 10000) : ∀ k : Nat, k ≤ rs.length → k ≤ ps.length → -(10000 * M * (k : Int)) ≤ payV (rs.take k) (ps.take k) f ∧ payV (rs.take k) (ps.take k) f ≤ 10000 * M * (k : Int)
  | 0, _, _ => by simp [payV]
  | k + 1, h1, h2 => by
    have ih := payV_bd hM hf hp k (by omega) (by omega)
    have h3 := hf _ (getD_mem' (show k < rs.length by omega))
    have hk2 : k < ps.length := by omega
    have h4 := hp (ps.getD k 0) (by simp [List.getD, hk2])
    rw [payV_snoc f rs ps k (by omega) (by omega)]
    have h5 : ps.getD k 0 * f (rs.getD k default) ≤ 10000 * M := by
      have a := Int.mul_le_mul_of_nonneg_left h3.2 h4.1
      have b := Int.mul_le_mul_of_nonneg_right h4.2 hM
      omega
    have h6 : -(10000 * M) ≤ ps.getD k 0 * f (rs.getD k default) := by
      have a := Int.mul_le_mul_of_nonneg_left h3.1 h4.1
      have b := Int.mul_le_mul_of_nonneg_right h4.2 hM
      rw [Int.mul_neg] at a
      omega
    have h7 : 10000 * M * ((k + 1 : Nat) : Int) = 10000 * M * (k : Int) + 10000 * M := by
      push_cast
      rw [Int.mul_add, Int.mul_one]
    generalize ps.getD k 0 * f (rs.getD k default) = z at *
    omega
theorem valP_ok {p : DPart} (h : PartOk p) : ValsOk (valP p) := fun q => by
  have := h.2.2 q
  omega
theorem need_bd {r : DReq} {v : Int → Int × Int} (h : ReqOk r) (hv : ValsOk v) : -80000000000 ≤ needV r v ∧ needV r v ≤ 80000000000 := by
  have := sumT_all h.1 hv
  unfold needV
  split <;> omega
theorem limit_bd {r : DReq} (h : ReqOk r) : -1000000000 ≤ limitV r ∧ limitV r ≤ 1000000000 := by
  have := h.2
  unfold limitV
  split <;> omega

theorem priced_bd {idle price : Int} {rs : List DReq} {ps : List Int} {p : DPart} (h : PartOk p) (hrs : ∀ r ∈ rs, ReqOk r) (hp : ∀ x ∈ ps, 0 ≤ x ∧ x ≤ 10000) (h1 : 0 ≤ idle ∧ idle ≤ 1000) (h2 : 0 ≤ price ∧ price ≤ 1000) (hr6 : rs.length ≤ 6) (hl : ps.length = rs.length) : -10000000000000000 ≤ pricedC idle price rs ps p ∧ pricedC idle price rs ps p ≤ 10000000000000000 := by
  have a := partC_bd h1 h2 h
  have b := payV_bd (M := 80000000000) (by decide) (fun r hr => need_bd (hrs r hr) (valP_ok h)) hp rs.length (Nat.le_refl _) (by omega)
  rw [List.take_length, ← hl, List.take_length] at b
  unfold pricedC
  omega
theorem boundF_bd {idle price : Int} {rs : List DReq} {ps : List Int} {sl : List (List DPart)} (hs : SlotsOk sl) (hrs : ∀ r ∈ rs, ReqOk r) (hp : ∀ x ∈ ps, 0 ≤ x ∧ x ≤ 10000) (h1 : 0 ≤ idle ∧ idle ≤ 1000) (h2 : 0 ≤ price ∧ price ≤ 1000) (hr6 : rs.length ≤ 6) (hl : ps.length = rs.length) : ∀ k : Nat, k ≤ sl.length → -10000000000000000 * (k : Int) ≤ boundF idle price rs ps (sl.take k) ∧ boundF idle price rs ps (sl.take k) ≤ 10000000000000000 * (k : Int)
  | 0, _ => by simp [boundF]
  | k + 1, hk => by
    have ih := boundF_bd hs hrs hp h1 h2 hr6 hl k (by omega)
    have hk' : k < sl.length := by omega
    have hm := hs.2 _ (show sl.getD k [] ∈ sl by simp [List.getD, hk'])
    rw [boundF_step hk']
    have hne : (sl.getD k []).map (pricedC idle price rs ps) ≠ [] := fun h => by
      have := congrArg List.length h
      rw [List.length_map, List.length_nil] at this
      omega
    obtain ⟨p, hpm, hpe⟩ := List.mem_map.1 (minL_mem hne)
    have h3 := priced_bd (hm.2 p hpm) hrs hp h1 h2 hr6 hl
    rw [hpe] at h3
    push_cast
    omega

theorem own_past {w w' : World} {base : Nat} {e : TypeId} {size n : Nat} {v : Value} {xs : List Value} (hb : Below w.heap.size w w') (h : w.ownsRow base e size v n xs) : w'.ownsRow base e size v n xs :=
  h.kept (show w.grownBy w' none from ⟨hb.os, hb.tape, hb.output, hb.size, fun i hi _ => hb.block i hi⟩) (by cases v.ownBlock <;> simp)
theorem cellsIn_one (w : World) (t : TypeId) (v : Value) : CellsIn (w.heap.size + 1) (w.alloc (.cells #[v] t)) (some ⟨w.heap.size, 0, none⟩) [v] := .inr ⟨w.heap.size, 0, rfl, by omega, fun q hq => by
  obtain rfl : q = 0 := by simp at hq; omega
  exact (Blk.new w t #[v]).cellAt 0 rfl⟩
theorem mulp_bd {x d : Int} (hx : 0 ≤ x ∧ x ≤ 10000) (hd : -80000000000 ≤ d ∧ d ≤ 80000000000) : -800000000000000 ≤ x * d ∧ x * d ≤ 800000000000000 := by
  have a := Int.mul_le_mul_of_nonneg_left hd.2 hx.1
  have b := Int.mul_le_mul_of_nonneg_left hd.1 hx.1
  omega

set_option maxRecDepth 100000 in
set_option maxHeartbeats 8000000 in
theorem bound_any (B : Nat) (rs : List DReq) (RA : Option Addr) (rn rc : Nat) (sl : List (List DPart)) (SA : Option Addr) (n c : Nat) (idle price : Int) (ps : List Int) (PA : Option Addr) (pc : Nat) (w : World)
    (hrr : ReqsIn B w RA rs) (hr : SlotsIn B w SA sl) (hp : IntsIn B w PA ps) (hB : B ≤ w.heap.size) (hrn : rs.length = rn) (hrm : rn ≤ 6) (hn : sl.length = n) (hpn : ps.length = rn) (hs : SlotsOk sl) (hrs : ∀ r ∈ rs, ReqOk r) (hpp : ∀ x ∈ ps, 0 ≤ x ∧ x ≤ 10000) (h1 : 0 ≤ idle ∧ idle ≤ 1000) (h2 : 0 ≤ price ∧ price ≤ 1000) :
    Calls Tryz.prog 46 #[.agg #[.slice SA n c, .int .i64 idle, .int .i64 price, .slice RA rn rc], .slice PA rn pc] w fun e w' => e = .returned (.int .i64 (boundV idle price rs ps sl)) ∧ Below w.heap.size w w' := by
  obtain ⟨i0, hi0, hz0, hz1, hz2⟩ := info_parts int_info
  have HR := Lib.hid hr
  have HRr := Lib.hid hrr
  have HP := Lib.hid hp
  have HN := Lib.hid hn
  have HRn := Lib.hid hrn
  have HPn := Lib.hid hpn
  have HS := Lib.hid hs
  have HRo := Lib.hid hrs
  have HPp := Lib.hid hpp
  have HBV := Lib.hid (show boundV idle price rs ps sl = boundF idle price rs ps sl - payV rs ps limitV from rfl)
  have hn5 : n ≤ 5 := by rw [← hn]; exact hs.1.2
  clear hr hrr hp hn hrn hpn hs hrs hpp
  generalize boundV idle price rs ps sl = RV at *
  go_enter Tryz.func46, Tryz.ntmps46
  go_wp2
  have Q0 := Lib.hid (show Blk (w.alloc (.cells #[.slice SA n c, .int .i64 idle, .int .i64 price, .slice RA rn rc] 82)) w.heap.size 82 #[.slice SA n c, .int .i64 idle, .int .i64 price, .slice RA rn rc] from Blk.newAt rfl)
  have HQ0 := Lib.hid (show Below w.heap.size w (w.alloc (.cells #[.slice SA n c, .int .i64 idle, .int .i64 price, .slice RA rn rc] 82)) from pa pr)
  generalize w.alloc (.cells #[.slice SA n c, .int .i64 idle, .int .i64 price, .slice RA rn rc] 82) = v0 at *
  go_loopw [5, 25] (fun sv iv wr => ∃ k : Nat, iv = .int .i64 (k : Int) ∧ k ≤ n ∧ sv = .int .i64 (boundF idle price rs ps (sl.take k)) ∧ Blk wr w.heap.size 82 #[.slice SA n c, .int .i64 idle, .int .i64 price, .slice RA rn rc] ∧ Below w.heap.size w wr) (fun _ iv _ => n - (intOf iv).toNat)
  case atStart => exact ⟨0, rfl, Nat.zero_le _, rfl, Q0.out, HQ0.out⟩
  case round =>
    clear Q0 HQ0
    obtain ⟨k, rfl, hk, rfl, q0, hq⟩ := hrel
    have HQ := Lib.hid hq
    have Q0 := Lib.hid q0
    have x0 := q0.cellAt 0 rfl
    have x3 := q0.cellAt 3 rfl
    have xl := q0.lt
    clear q0 hq
    by_cases hlt : k < n
    · have hk' : k < sl.length := by rw [HN.out]; exact hlt
      obtain ⟨b1, off1, rfl, hb1, hct1⟩ := (HR.out.below (HQ.out.mono hB)).at_ hk'
      obtain ⟨A2, c2, e1, hts, hcap⟩ := hct1 k hk'
      have hl := HS.out.2 _ (show sl.getD k [] ∈ sl by simp [List.getD, hk'])
      have HStep := Lib.hid (boundF_step (idle := idle) (price := price) (rs := rs) (ps := ps) hk')
      have hbk := boundF_bd (idle := idle) (price := price) HS.out HRo.out HPp.out h1 h2 (by rw [HRn.out]; exact hrm) (by rw [HPn.out, HRn.out]) k (by omega)
      have hbk2 := boundF_bd (idle := idle) (price := price) HS.out HRo.out HPp.out h1 h2 (by rw [HRn.out]; exact hrm) (by rw [HPn.out, HRn.out]) (k + 1) (by omega)
      rw [HStep.out] at hbk2
      have HTs := Lib.hid hts
      have hbw : b1 < wr.heap.size := Nat.lt_of_lt_of_le (Nat.lt_of_lt_of_le hb1 hB) HQ.out.size
      generalize sl.getD k [] = l at *
      obtain ⟨ln, hln⟩ : ∃ ln, ln = l.length := ⟨_, rfl⟩
      rw [← hln] at e1
      have HLn := Lib.hid hln
      have HL := Lib.hid hl
      have hl1 : 1 ≤ ln := by rw [hln]; exact hl.1.1
      have hl6 : ln ≤ 6 := by rw [hln]; exact hl.1.2
      have k0 : (0 : Int) ≤ (k : Int) := by omega
      have k1 : (k : Int) < (n : Int) := by omega
      clear hct1 hts hcap hl hln hk'
      generalize boundF idle price rs ps (sl.take k) = sk at *
      go_wp2
      obtain ⟨wA, hwA⟩ : ∃ wA : World, wA = wr := ⟨_, rfl⟩
      subst hwA
      have TA := Lib.hid HTs.out
      clear HTs x0 x3 e1 hbw xl
      have HQ0 := Lib.hid HQ.out
      have TQ := Lib.hid Q0.out
      clear HQ Q0
      go_loopw [8, 31] (fun sv iv wr => ∃ (j : Nat) (A3 : Option Addr) (c3 : Nat), iv = .int .i64 (j : Int) ∧ j ≤ ln ∧ sv = .slice A3 j c3 ∧ wr.ownsRow wA.heap.size 3 1 (.slice A3 j c3) j (((l.take j).map (pricedC idle price rs ps)).map (Value.int .i64)) ∧ Blk wr w.heap.size 82 #[.slice (some ⟨b1, off1, none⟩) n c, .int .i64 idle, .int .i64 price, .slice RA rn rc] ∧ Below wA.heap.size wA wr) (fun _ iv _ => ln - (intOf iv).toNat)
      case atStart => exact ⟨0, none, 0, rfl, Nat.zero_le _, rfl, World.ownsRow_nil _ _ _ _, TQ.out, Below.refl _ _⟩
      case round =>
        obtain ⟨j, A3, c3, rfl, hj, rfl, hown, q0, hab⟩ := hrel
        have HO := Lib.hid hown
        have HAb := Lib.hid hab
        have Q0 := Lib.hid q0
        have HQ := Lib.hid (pt HQ0.out hab)
        have x0 := q0.cellAt 0 rfl
        have x1 := q0.cellAt 1 rfl
        have x2 := q0.cellAt 2 rfl
        have x3 := q0.cellAt 3 rfl
        have xl := q0.lt
        clear hown q0 hab
        by_cases hlj : j < ln
        · have hj' : j < l.length := by rw [← HLn.out]; exact hlj
          obtain ⟨b2, off2, rfl, hb2, hct2⟩ := parts_at (TA.out.below (HAb.out.mono (Nat.le_trans hB HQ0.out.size))) hj'
          obtain ⟨u0, u1, u2, u3, u4, u5, u6, u7, u8, u9, u10, u11, u12, u13⟩ := part_cells (hct2 j hj')
          have hpo := HL.out.2 _ (getD_mem' hj')
          have HTk := Lib.hid (show (l.take (j + 1)).map (pricedC idle price rs ps) = (l.take j).map (pricedC idle price rs ps) ++ [pricedC idle price rs ps (l.getD j default)] by rw [take_snoc hj', List.map_append]; rfl)
          have hbw := Nat.lt_of_lt_of_le (Nat.lt_of_lt_of_le hb2 hB) HQ.out.size
          clear hct2 hj'
          generalize l.getD j default = prt at *
          have HPo := Lib.hid hpo
          have HPC := Lib.hid (fun W => partCost_any prt (some ⟨b1, off1, none⟩) n c idle price W h1 h2 hpo)
          have HPr := Lib.hid (show pricedC idle price rs ps prt = partC idle price prt + payV rs ps (fun r => needV r (valP prt)) from rfl)
          have hpcb := partC_bd h1 h2 hpo
          generalize pricedC idle price rs ps prt = pd_ at *
          generalize partC idle price prt = pcst at *
          have j0 : (0 : Int) ≤ (j : Int) := by omega
          have j1 : (j : Int) < (ln : Int) := by omega
          clear hpo
          go_wp2_with (go_at_call 62; refine (HPC.out _).mono ?_; rintro e w2 ⟨rfl, hb9⟩; have X2 := Lib.hid ((Q0.out.alloc).past hb9); have P10 := Lib.hid ((show Blk (wr.alloc (.cells #[.string prt.name, .int .i64 prt.price, .int .i64 (valP prt 0).1, .int .i64 (valP prt 0).2, .int .i64 (valP prt 1).1, .int .i64 (valP prt 1).2, .int .i64 (valP prt 2).1, .int .i64 (valP prt 2).2, .int .i64 (valP prt 3).1, .int .i64 (valP prt 3).2, .int .i64 (valP prt 4).1, .int .i64 (valP prt 4).2, .int .i64 (valP prt 5).1, .int .i64 (valP prt 5).2] 60)) wr.heap.size 60 #[.string prt.name, .int .i64 prt.price, .int .i64 (valP prt 0).1, .int .i64 (valP prt 0).2, .int .i64 (valP prt 1).1, .int .i64 (valP prt 1).2, .int .i64 (valP prt 2).1, .int .i64 (valP prt 2).2, .int .i64 (valP prt 3).1, .int .i64 (valP prt 3).2, .int .i64 (valP prt 4).1, .int .i64 (valP prt 4).2, .int .i64 (valP prt 5).1, .int .i64 (valP prt 5).2] from Blk.newAt rfl).past hb9); have HB9 := Lib.hid (pt (pa pr) hb9); clear hb9 x0 x1 x2 x3 xl; have x3 := X2.out.cellAt 3 rfl; have xl := X2.out.lt)
          have HO2 := Lib.hid (own_past HB9.out HO.out)
          have HA2 := Lib.hid (pt HAb.out HB9.out)
          have HQ2 := Lib.hid (pt HQ.out HB9.out)
          clear HO HAb HQ Q0 HB9 u0 u1 u2 u3 u4 u5 u6 u7 u8 u9 u10 u11 u12 u13 x3 xl
          generalize wr.heap.size = b10 at *
          obtain ⟨wC, hwC⟩ : ∃ wC : World, wC = w2 := ⟨_, rfl⟩
          subst hwC
          go_loopw [11, 42] (fun sv iv wr => ∃ i : Nat, iv = .int .i64 (i : Int) ∧ i ≤ rn ∧ sv = .int .i64 (pcst + payV (rs.take i) (ps.take i) (fun r => needV r (valP prt))) ∧ Blk wr b10 60 #[.string prt.name, .int .i64 prt.price, .int .i64 (valP prt 0).1, .int .i64 (valP prt 0).2, .int .i64 (valP prt 1).1, .int .i64 (valP prt 1).2, .int .i64 (valP prt 2).1, .int .i64 (valP prt 2).2, .int .i64 (valP prt 3).1, .int .i64 (valP prt 3).2, .int .i64 (valP prt 4).1, .int .i64 (valP prt 4).2, .int .i64 (valP prt 5).1, .int .i64 (valP prt 5).2] ∧ Below wC.heap.size wC wr) (fun _ iv _ => rn - (intOf iv).toNat)
          case atStart => exact ⟨0, rfl, Nat.zero_le _, by simp [payV], P10.out, Below.refl _ _⟩
          case round =>
            clear P10
            obtain ⟨i, rfl, hi, rfl, q1, hq⟩ := hrel
            have Q1 := Lib.hid q1
            have HQ3 := Lib.hid (pt HQ2.out hq)
            have HQc := Lib.hid hq
            have hbp := payV_bd (M := 80000000000) (by decide) (fun r hr => need_bd (HRo.out r hr) (valP_ok HPo.out)) HPp.out i (by rw [HRn.out]; exact hi) (by rw [HPn.out]; exact hi)
            have gl := q1.lt
            have g0 := q1.cellAt 0 rfl
            have g1 := q1.cellAt 1 rfl
            have g2 := q1.cellAt 2 rfl
            have g3 := q1.cellAt 3 rfl
            have g4 := q1.cellAt 4 rfl
            have g5 := q1.cellAt 5 rfl
            have g6 := q1.cellAt 6 rfl
            have g7 := q1.cellAt 7 rfl
            have g8 := q1.cellAt 8 rfl
            have g9 := q1.cellAt 9 rfl
            have g10 := q1.cellAt 10 rfl
            have g11 := q1.cellAt 11 rfl
            have g12 := q1.cellAt 12 rfl
            have g13 := q1.cellAt 13 rfl
            clear q1 hq
            by_cases hli : i < rn
            · have hi' : i < rs.length := by rw [HRn.out]; exact hli
              have hip : i < ps.length := by rw [HPn.out]; exact hli
              have hbp2 := payV_bd (M := 80000000000) (by decide) (fun r hr => need_bd (HRo.out r hr) (valP_ok HPo.out)) HPp.out (i + 1) (by omega) (by omega)
              have hsn := payV_snoc (fun r => needV r (valP prt)) rs ps i hi' hip
              rw [hsn] at hbp2
              have hro := HRo.out _ (getD_mem' hi')
              have hnb := need_bd hro (valP_ok HPo.out)
              have hpx := HPp.out (ps.getD i 0) (by simp [List.getD, hip])
              obtain ⟨b3, off3, rfl, hb3, hct3⟩ := (HRr.out.below (HQ3.out.mono hB)).at_ hi'
              obtain ⟨A4, c4, u0, u1, u2, u3, hts, hcap⟩ := hct3 i hi'
              obtain ⟨b4, off4, rfl, hb4, hct4⟩ := (HP.out.below (HQ3.out.mono hB)).at_ (k := i) hip
              have c9 := hct4 i hip
              have hbw3 : b3 < wr.heap.size := Nat.lt_of_lt_of_le (Nat.lt_of_lt_of_le hb3 hB) HQ3.out.size
              have hbw4 : b4 < wr.heap.size := Nat.lt_of_lt_of_le (Nat.lt_of_lt_of_le hb4 hB) HQ3.out.size
              have HSd := Lib.hid (fun W (hW : Below wr.heap.size wr W) => side_any B (rs.getD i default) A4 _ c4 prt W (hts.below (hW.mono (Nat.le_trans hB HQ3.out.size))) (Nat.le_trans (Nat.le_trans hB HQ3.out.size) hW.size) rfl hro.1 (valP_ok HPo.out) hro.2)
              have HSn := Lib.hid hsn
              clear hsn hct3 hct4 hts hcap hro hi' hip
              generalize payV (rs.take i) (ps.take i) (fun r => needV r (valP prt)) = s0 at *
              generalize rs.getD i default = r at *
              generalize needV r (valP prt) = nd at *
              generalize limitV r = lm at *
              obtain ⟨rts, ge, lim, unit⟩ := r
              try dsimp only at *
              generalize rts.length = ln4 at *
              generalize ps.getD i 0 = x at *
              have m1 := mulp_bd hpx hnb
              have iz0 : (0 : Int) ≤ (i : Int) := by omega
              have iz1 : (i : Int) < (rn : Int) := by omega
              have i6 : (i : Int) ≤ 6 := by omega
              have bs0 : -10000000000000000 ≤ pcst + s0 ∧ pcst + s0 ≤ 10000000000000000 := by omega
              have hw1 : wrap64 (x * nd) = x * nd := w64 (by omega)
              have hw2 : wrap64 (pcst + s0 + x * nd) = pcst + s0 + x * nd := w64 (by omega)
              clear hbp hbp2 hnb hpx m1 bs0
              go_wp2_with (go_at_call 72; refine (HSd.out _ (pa pr)).mono ?_; rintro e w3 ⟨rfl, hb9⟩; have HB9 := Lib.hid (pt (pa pr) hb9); have c10 := (World.cell?_of_block (HB9.out.block b4 hbw4)).trans c9; clear hb9 c9 u0 u1 u2 u3 g0 g1 g2 g3 g4 g5 g6 g7 g8 g9 g10 g11 g12 g13 gl)
              go_roundw
              case rel => exact ⟨i + 1, by go_num, by omega, by rw [HSn.out, ← Int.add_assoc]; exact congrArg (Value.int .i64) hw2, Q1.out.past HB9.out, pt HQc.out HB9.out⟩
              case measure => simp [intOf]; omega
            · have hir : i = rn := by omega
              subst hir
              have e1 : rs.take i = rs := List.take_of_length_le (by rw [HRn.out]; exact Nat.le_refl _)
              have e2 : ps.take i = ps := List.take_of_length_le (by rw [HPn.out]; exact Nat.le_refl _)
              rw [e1, e2, ← HPr.out] at *
              clear e1 e2 hbp g0 g1 g2 g3 g4 g5 g6 g7 g8 g9 g10 g11 g12 g13 gl
              have hmx : j + 1 ≤ maxLen := by simp only [maxLen]; omega
              go_wp2_with (at_builtin; refine wpList_append_cells _ rfl (.tmp 62) (.tmp 64) _ rfl wA.heap.size 3 i0 _ 1 8 Tryz.underlying32 hi0 hz0 hz1 hz2 rfl (by omega) _ j _ rfl ((own_past HQc.out HO2.out).alloc _) (wr.heap.size + 1) (some ⟨wr.heap.size, 0, none⟩) 1 1 [.int .i64 pd_] rfl (cellsIn_one _ _ _) rfl (by simp [Value.oneCell']) hmx (by omega) (by have := HA2.out.size; have := HQc.out.size; simp; omega) ?_; intro v9 w9 hown9 hg9 _; obtain ⟨A9, c9, rfl, hc9, hm9⟩ := own_form hown9; have HO9 := Lib.hid hown9; have HB9 := Lib.hid (pg (pa (pt HA2.out HQc.out)) ((own_past HQc.out HO2.out).alloc _) (Nat.le_refl _) hg9); have HK9 := Lib.hid hg9; clear hown9 hg9)
              go_roundw
              case rel => exact ⟨j + 1, A9, c9, by go_num, by omega, rfl, by rw [HTk.out, List.map_append]; exact HO9.out, (HB9.out.block _ TQ.out.lt).trans TQ.out, HB9.out⟩
              case measure => simp [intOf]; omega
        · have hje : j = ln := by omega
          subst hje
          have ht : l.take j = l := List.take_of_length_le (by rw [HLn.out]; exact Nat.le_refl _)
          rw [ht] at HO
          clear ht x0 x1 x2 x3 xl
          have HMi := Lib.hid (minInts_any wr.heap.size A3 j c3 (l.map (pricedC idle price rs ps)) wr (intsIn_of_own HO.out) (by rw [List.length_map]; exact HLn.out.symm) (by omega) hl1)
          generalize minL (l.map (pricedC idle price rs ps)) = mi at *
          have bs1 : -100000000000000000 ≤ sk + mi ∧ sk + mi ≤ 100000000000000000 := by omega
          have hw1 : wrap64 (sk + mi) = sk + mi := w64 (by omega)
          clear hbk hbk2 bs1
          go_wp2_with (go_at_call 73; refine HMi.out.mono ?_; rintro e w3 ⟨rfl, hw3⟩; subst hw3)
          go_roundw
          case rel => exact ⟨k + 1, by go_num, by omega, by rw [HStep.out]; exact congrArg (Value.int .i64) hw1, Q0.out, HQ.out⟩
          case measure => simp [intOf]; omega
    · have hkn : k = n := by omega
      subst hkn
      have ht : sl.take k = sl := List.take_of_length_le (by rw [HN.out]; exact Nat.le_refl _)
      have hbk := boundF_bd (idle := idle) (price := price) HS.out HRo.out HPp.out h1 h2 (by rw [HRn.out]; exact hrm) (by rw [HPn.out, HRn.out]) k (by rw [HN.out]; exact Nat.le_refl _)
      rw [ht] at *
      clear ht
      generalize boundF idle price rs ps sl = sk at *
      go_wp2
      obtain ⟨wD, hwD⟩ : ∃ wD : World, wD = wr := ⟨_, rfl⟩
      subst hwD
      have HQ0 := Lib.hid HQ.out
      clear HQ Q0 x0 x3 xl
      go_loopw [5, 75] (fun sv iv wr => ∃ i : Nat, iv = .int .i64 (i : Int) ∧ i ≤ rn ∧ sv = .int .i64 (sk - payV (rs.take i) (ps.take i) limitV) ∧ Below wD.heap.size wD wr) (fun _ iv _ => rn - (intOf iv).toNat)
      case atStart => exact ⟨0, rfl, Nat.zero_le _, by simp [payV], Below.refl _ _⟩
      case round =>
        obtain ⟨i, rfl, hi, rfl, hq⟩ := hrel
        have HQ3 := Lib.hid (pt HQ0.out hq)
        have HQc := Lib.hid hq
        have hbp := payV_bd (M := 1000000000) (by decide) (fun r hr => limit_bd (HRo.out r hr)) HPp.out i (by rw [HRn.out]; exact hi) (by rw [HPn.out]; exact hi)
        clear hq
        by_cases hli : i < rn
        · have hi' : i < rs.length := by rw [HRn.out]; exact hli
          have hip : i < ps.length := by rw [HPn.out]; exact hli
          have hsn := payV_snoc limitV rs ps i hi' hip
          have hro := HRo.out _ (getD_mem' hi')
          have hnb := limit_bd hro
          have hpx := HPp.out (ps.getD i 0) (by simp [List.getD, hip])
          obtain ⟨b3, off3, rfl, hb3, hct3⟩ := (HRr.out.below (HQ3.out.mono hB)).at_ hi'
          obtain ⟨A4, c4, u0, u1, u2, u3, hts, hcap⟩ := hct3 i hi'
          obtain ⟨b4, off4, rfl, hb4, hct4⟩ := (HP.out.below (HQ3.out.mono hB)).at_ (k := i) hip
          have c9 := hct4 i hip
          have hbw3 : b3 < wr.heap.size := Nat.lt_of_lt_of_le (Nat.lt_of_lt_of_le hb3 hB) HQ3.out.size
          have hbw4 : b4 < wr.heap.size := Nat.lt_of_lt_of_le (Nat.lt_of_lt_of_le hb4 hB) HQ3.out.size
          have HSd := Lib.hid (show ∀ W (hW : Below wr.heap.size wr W), Calls Tryz.prog 72 #[.agg #[.slice A4 (rs.getD i default).ts.length c4, .bool (rs.getD i default).ge, .int .i64 (rs.getD i default).lim, .int .i64 (rs.getD i default).unit], .agg #[.string ⟨#[]⟩, .int .i64 0, .int .i64 0, .int .i64 0, .int .i64 0, .int .i64 0, .int .i64 0, .int .i64 0, .int .i64 0, .int .i64 0, .int .i64 0, .int .i64 0, .int .i64 0, .int .i64 0]] W fun e w' => e = .returned (.tuple #[.int .i64 (limitV (rs.getD i default)), .int .i64 (needV (rs.getD i default) (valP ⟨⟨#[]⟩, 0, []⟩))]) ∧ Below W.heap.size W w' from fun W hW => side_any B (rs.getD i default) A4 _ c4 ⟨⟨#[]⟩, 0, []⟩ W (hts.below (hW.mono (Nat.le_trans hB HQ3.out.size))) (Nat.le_trans (Nat.le_trans hB HQ3.out.size) hW.size) rfl hro.1 (fun q => by simp [valP]) hro.2)
          have HSn := Lib.hid hsn
          clear hsn hct3 hct4 hts hcap hro hi' hip
          generalize payV (rs.take i) (ps.take i) limitV = s0 at *
          generalize rs.getD i default = r at *
          generalize needV r (valP ⟨⟨#[]⟩, 0, []⟩) = nd at *
          generalize limitV r = lm at *
          obtain ⟨rts, ge, lim, unit⟩ := r
          try dsimp only at *
          generalize rts.length = ln4 at *
          generalize ps.getD i 0 = x at *
          have m1 := mulp_bd hpx (show -80000000000 ≤ lm ∧ lm ≤ 80000000000 by omega)
          have iz0 : (0 : Int) ≤ (i : Int) := by omega
          have iz1 : (i : Int) < (rn : Int) := by omega
          have i6 : (i : Int) ≤ 6 := by omega
          have k5 : (k : Int) ≤ 5 := by omega
          have bs0 : -100000000000000000 ≤ sk - s0 ∧ sk - s0 ≤ 100000000000000000 := by omega
          have hw1 : wrap64 (x * lm) = x * lm := w64 (by omega)
          have hw2 : wrap64 (sk - s0 - x * lm) = sk - s0 - x * lm := w64 (by omega)
          clear hbp hnb hpx m1 bs0 hbk
          go_wp2_with (go_at_call 72; refine (HSd.out _ (pa pr)).mono ?_; rintro e w3 ⟨rfl, hb9⟩; have HB9 := Lib.hid (pt (pa pr) hb9); have c10 := (World.cell?_of_block (HB9.out.block b4 hbw4)).trans c9; clear hb9 c9 u0 u1 u2 u3)
          go_roundw
          case rel => exact ⟨i + 1, by go_num, by omega, by rw [HSn.out]; exact congrArg (Value.int .i64) (by omega), pt HQc.out HB9.out⟩
          case measure => simp [intOf]; omega
        · have hir : i = rn := by omega
          subst hir
          have e1 : rs.take i = rs := List.take_of_length_le (by rw [HRn.out]; exact Nat.le_refl _)
          have e2 : ps.take i = ps := List.take_of_length_le (by rw [HPn.out]; exact Nat.le_refl _)
          rw [e1, e2, ← HBV.out] at *
          clear e1 e2 hbp hbk
          go_wp2
          go_ret
          exact ⟨rfl, HQ3.out⟩

end Go.Proofs.YtnfbdkdjoekifaaGreatDoor
end
