/- Contracts: openStock, open (package design). Printed by a program (gen_d2open.py). -/
import Derived.Test.YtnfbdkdjoekifaaGreatDoorOb4
import Derived.Test.YtnfbdkdjoekifaaGreatDoorOb5

section
namespace Go.Proofs.YtnfbdkdjoekifaaGreatDoor
open Go.RowKit

set_option maxRecDepth 100000 in
set_option maxHeartbeats 4000000 in
theorem openStock_any (B : Nat) (sl : List (List DPart)) (SA : Option Addr) (n c : Nat) (idle price : Int) (w : World) (hr : SlotsIn B w SA sl) (hB : B ≤ w.heap.size) (hn : sl.length = n) (hm : n ≤ 1000) (hs : SmallSlots sl) :
    Calls Tryz.prog 61 #[.agg #[.slice SA n c, .int .i64 idle, .int .i64 price]] w fun e w' => e = .returned (.tuple #[.agg #[.slice SA n c, .int .i64 idle, .int .i64 price], .int .i64 (stockE idle price sl).2]) ∧ Below w.heap.size w w' := by
  have HE := Lib.hid (fun W (hW : Below w.heap.size w W) => CheckStock_any B sl SA n c idle price W (hr.below (hW.mono hB)) (Nat.le_trans hB hW.size) hn hm hs)
  clear hr hn hs
  generalize (stockE idle price sl).1 = i1 at *
  generalize (stockE idle price sl).2 = E at *
  go_enter Tryz.func61, Tryz.ntmps61
  go_wp2_with (first
    | (go_at_call 47; refine (HE.out _ (pa (pa pr))).mono ?_; rintro e w1 ⟨rfl, hb1⟩; have R1 := Lib.hid ((show Blk ((w.alloc (.cells #[.slice SA n c, .int .i64 idle, .int .i64 price] 27)).alloc (.cells #[.slice none 0 0, .int .i64 0, .int .i64 0] 80)) w.heap.size 27 #[.slice SA n c, .int .i64 idle, .int .i64 price] from (Blk.newAt rfl).alloc).past hb1); have R2 := Lib.hid ((show Blk ((w.alloc (.cells #[.slice SA n c, .int .i64 idle, .int .i64 price] 27)).alloc (.cells #[.slice none 0 0, .int .i64 0, .int .i64 0] 80)) (w.heap.size + 1) 80 #[.slice none 0 0, .int .i64 0, .int .i64 0] from Blk.newAt (by simp)).past hb1); have HB1 := Lib.hid (pt (pa (pa pr)) hb1); have g0 := R1.out.cellAt 0 rfl; have g1 := R1.out.cellAt 1 rfl; have g2 := R1.out.cellAt 2 rfl; clear hb1)
    | ((with_reducible refine store_blk (T := 80) (x := .tmp 2) (y := .tmp 12) (vs := #[.slice SA n c, .int .i64 idle, .int .i64 price]) R2.out ?_ ?_ ?_ ?_ ?_ ?_); (focus rfl); (focus exact dstock_size); (focus (simp [Value.oneCell']; done)); (focus (first | rfl | (go_simp; done))); (focus (first | rfl | (go_simp; done))); intro WF RF PF))
  have r0 := RF.cellAt 0 rfl
  have r1 := RF.cellAt 1 rfl
  have r2 := RF.cellAt 2 rfl
  refine bodyPost_ret (v := .tuple #[.agg #[.slice SA n c, .int .i64 idle, .int .i64 price], .int .i64 E]) (by simp [results, Tryz.results61, go_sem, r0, r1, r2]) rfl ?_
  exact ⟨rfl, pp HB1.out PF (by omega)⟩

def openE (rs : List DReq) (idle price : Int) (sl : List (List DPart)) : Int := firstV [(specE rs).2, (stockE idle price sl).2]
set_option maxRecDepth 100000 in
set_option maxHeartbeats 4000000 in
theorem open_any (B : Nat) (rs : List DReq) (RA : Option Addr) (rn rc : Nat) (sl : List (List DPart)) (SA : Option Addr) (n c : Nat) (idle price : Int) (w : World) (hrr : ReqsIn B w RA rs) (hr : SlotsIn B w SA sl) (hB : B ≤ w.heap.size) (hrn : rs.length = rn) (hrm : rn ≤ 1000) (hrs : ∀ r ∈ rs, r.ts.length ≤ 1000) (hU : UnitIn w) (hn : sl.length = n) (hm : n ≤ 1000) (hs : SmallSlots sl) :
    Calls Tryz.prog 33 #[.agg #[.slice RA rn rc], .agg #[.slice SA n c, .int .i64 idle, .int .i64 price]] w fun e w' => e = .returned (.tuple #[.agg #[.slice SA n c, .int .i64 idle, .int .i64 price, .slice RA rn rc], .int .i64 (openE rs idle price sl)]) ∧ Below w.heap.size w w' := by
  have HE := Lib.hid (fun W (hW : Below w.heap.size w W) => CheckSpec_any B rs RA rn rc W (hrr.below (hW.mono hB)) (Nat.le_trans hB hW.size) hrn hrm hrs (hU.below hW))
  have HO := Lib.hid (fun W (hW : Below w.heap.size w W) => openStock_any B sl SA n c idle price W (hr.below (hW.mono hB)) (Nat.le_trans hB hW.size) hn hm hs)
  have HV := Lib.hid (show firstV [(specE rs).2, (stockE idle price sl).2] = openE rs idle price sl from rfl)
  clear hrr hr hrn hrs hU hn hs
  generalize (specE rs).1 = i1 at *
  generalize (specE rs).2 = e1 at *
  generalize (stockE idle price sl).2 = e2 at *
  generalize openE rs idle price sl = E at *
  go_enter Tryz.func33, Tryz.ntmps33
  go_wp2_with (first
    | (go_at_call 60; refine (HE.out _ (pa (pa (pa pr)))).mono ?_; rintro e w1 ⟨rfl, hb1⟩; have R1 := Lib.hid ((show Blk (((w.alloc (.cells #[.slice RA rn rc] 24)).alloc (.cells #[.slice SA n c, .int .i64 idle, .int .i64 price] 27)).alloc (.cells #[.slice none 0 0, .int .i64 0, .int .i64 0, .slice none 0 0] 82)) w.heap.size 24 #[.slice RA rn rc] from ((Blk.newAt rfl).alloc).alloc).past hb1); have R2 := Lib.hid ((show Blk (((w.alloc (.cells #[.slice RA rn rc] 24)).alloc (.cells #[.slice SA n c, .int .i64 idle, .int .i64 price] 27)).alloc (.cells #[.slice none 0 0, .int .i64 0, .int .i64 0, .slice none 0 0] 82)) (w.heap.size + 1) 27 #[.slice SA n c, .int .i64 idle, .int .i64 price] from (Blk.newAt (by simp)).alloc).past hb1); have R4 := Lib.hid ((show Blk (((w.alloc (.cells #[.slice RA rn rc] 24)).alloc (.cells #[.slice SA n c, .int .i64 idle, .int .i64 price] 27)).alloc (.cells #[.slice none 0 0, .int .i64 0, .int .i64 0, .slice none 0 0] 82)) (w.heap.size + 1 + 1) 82 #[.slice none 0 0, .int .i64 0, .int .i64 0, .slice none 0 0] from Blk.newAt (by simp)).past hb1); have HB1 := Lib.hid (pt (pa (pa (pa pr))) hb1); have g0 := R2.out.cellAt 0 rfl; have g1 := R2.out.cellAt 1 rfl; have g2 := R2.out.cellAt 2 rfl; clear hb1)
    | (go_at_call 61; refine (HO.out _ HB1.out).mono ?_; rintro e w2 ⟨rfl, hb2⟩; have S1 := Lib.hid (R1.out.past hb2); have S4 := Lib.hid (R4.out.past hb2); have HB2 := Lib.hid (pt HB1.out hb2); clear hb2 g0 g1 g2; have g0 := S1.out.cellAt 0 rfl; have gl := S1.out.lt; have gm := S4.out.lt))
  have Y8 : Blk (w2.alloc (.cells #[.slice SA n c, .int .i64 idle, .int .i64 price] 80)) w2.heap.size 80 #[.slice SA n c, .int .i64 idle, .int .i64 price] := Blk.newAt rfl
  have Y1 : Blk (w2.alloc (.cells #[.slice SA n c, .int .i64 idle, .int .i64 price] 80)) w.heap.size 24 #[.slice RA rn rc] := S1.out.alloc
  have Y4 : Blk (w2.alloc (.cells #[.slice SA n c, .int .i64 idle, .int .i64 price] 80)) (w.heap.size + 1 + 1) 82 #[.slice none 0 0, .int .i64 0, .int .i64 0, .slice none 0 0] := S4.out.alloc
  have HBv := Lib.hid (show Below w.heap.size w (w2.alloc (.cells #[.slice SA n c, .int .i64 idle, .int .i64 price] 80)) from pa HB2.out)
  generalize w2.alloc (.cells #[.slice SA n c, .int .i64 idle, .int .i64 price] 80) = v at *
  generalize w2.heap.size = b8 at *
  have hB4 : w.heap.size ≤ w.heap.size + 1 + 1 := by omega
  generalize w.heap.size + 1 + 1 = b4 at *
  clear g0 gl gm S1 S4 HB1 HB2 R1 R2 R4
  have HSS := Lib.hid (show ∀ W, Below v.heap.size v W → W.cell? ⟨b8, 0, none⟩ = some (.slice SA n c) ∧ W.cell? ⟨b8, 1, none⟩ = some (.int .i64 idle) ∧ W.cell? ⟨b8, 2, none⟩ = some (.int .i64 price) ∧ W.cell? ⟨w.heap.size, 0, none⟩ = some (.slice RA rn rc) from fun W hW => ⟨(Y8.past hW).cellAt 0 rfl, (Y8.past hW).cellAt 1 rfl, (Y8.past hW).cellAt 2 rfl, (Y1.past hW).cellAt 0 rfl⟩)
  refine wp_region_G 8 follows_mixed (fun W => W.cell? ⟨b8, 0, none⟩ = some (.slice SA n c) ∧ W.cell? ⟨b8, 1, none⟩ = some (.int .i64 idle) ∧ W.cell? ⟨b8, 2, none⟩ = some (.int .i64 price) ∧ W.cell? ⟨w.heap.size, 0, none⟩ = some (.slice RA rn rc)) (HSS.out _ (pd pr)) ?_
  intro hSd inv
  have HSd := Lib.hid hSd
  clear hSd
  refine wpAnyG_take (i := 0) (v := ?_) rfl (by kernel_rfl) (by kernel_rfl) (by kernel_rfl) (by kernel_rfl) (by kernel_rfl) (by decide) (by decide) inv (fun _ _ _ h => h) (Or.inl ⟨by rfl, ?_⟩) HSd.out ?_; rotate_left; (focus (intro W y1; obtain ⟨y1, y2, y3, y4⟩ := y1; go_simp; (first | done | with_reducible rfl))); clear inv; intro inv; simp only [List.getElem_toArray, List.getElem_cons_zero, Act.put, List.setIfInBounds_toArray, List.set_cons_zero, List.set_cons_succ]
  refine wpAnyG_take (i := 1) (v := ?_) rfl (by kernel_rfl) (by kernel_rfl) (by kernel_rfl) (by kernel_rfl) (by kernel_rfl) (by decide) (by decide) inv (fun _ _ _ h => h) (Or.inl ⟨by rfl, ?_⟩) HSd.out ?_; rotate_left; (focus (intro W y1; obtain ⟨y1, y2, y3, y4⟩ := y1; go_simp; (first | done | with_reducible rfl))); clear inv; intro inv; simp only [List.getElem_toArray, List.getElem_cons_zero, List.getElem_cons_succ, Act.put, List.setIfInBounds_toArray, List.set_cons_zero, List.set_cons_succ]
  refine wpAnyG_take (i := 2) (v := ?_) rfl (by kernel_rfl) (by kernel_rfl) (by kernel_rfl) (by kernel_rfl) (by kernel_rfl) (by decide) (by decide) inv (fun _ _ _ h => h) (Or.inl ⟨by rfl, ?_⟩) HSd.out ?_; rotate_left; (focus (intro W y1; obtain ⟨y1, y2, y3, y4⟩ := y1; go_simp; (first | done | with_reducible rfl))); clear inv; intro inv; simp only [List.getElem_toArray, List.getElem_cons_zero, List.getElem_cons_succ, Act.put, List.setIfInBounds_toArray, List.set_cons_zero, List.set_cons_succ]
  refine wpAnyG_take (i := 3) (v := ?_) rfl (by kernel_rfl) (by kernel_rfl) (by kernel_rfl) (by kernel_rfl) (by kernel_rfl) (by decide) (by decide) inv (fun _ _ _ h => h) (Or.inl ⟨by rfl, ?_⟩) HSd.out ?_; rotate_left; (focus (intro W y1; obtain ⟨y1, y2, y3, y4⟩ := y1; go_simp; (first | done | with_reducible rfl))); clear inv; intro inv; simp only [List.getElem_toArray, List.getElem_cons_zero, List.getElem_cons_succ, Act.put, List.setIfInBounds_toArray, List.set_cons_zero, List.set_cons_succ]
  refine wpAnyG_take (i := 4) (v := ?_) rfl (by kernel_rfl) (by kernel_rfl) (by kernel_rfl) (by kernel_rfl) (by kernel_rfl) (by decide) (by decide) inv (fun _ _ _ h => h) (Or.inl ⟨by rfl, ?_⟩) HSd.out ?_; rotate_left; (focus (intro W y1; obtain ⟨y1, y2, y3, y4⟩ := y1; go_simp; (first | done | with_reducible rfl))); clear inv; intro inv; simp only [List.getElem_toArray, List.getElem_cons_zero, List.getElem_cons_succ, Act.put, List.setIfInBounds_toArray, List.set_cons_zero, List.set_cons_succ]
  refine wpAnyG_take (i := 5) (v := ?_) rfl (by kernel_rfl) (by kernel_rfl) (by kernel_rfl) (by kernel_rfl) (by kernel_rfl) (by decide) (by decide) inv (fun _ _ _ h => h) (Or.inl ⟨by rfl, ?_⟩) HSd.out ?_; rotate_left; (focus (intro W y1; obtain ⟨y1, y2, y3, y4⟩ := y1; go_simp; (first | done | with_reducible rfl))); clear inv; intro inv; simp only [List.getElem_toArray, List.getElem_cons_zero, List.getElem_cons_succ, Act.put, List.setIfInBounds_toArray, List.set_cons_zero, List.set_cons_succ]
  clear inv
  refine wpAnyG_one (i := 6) (by kernel_rfl) rfl rfl fun K hK => ?_
  go_simp
  refine hK.out _ _ (fun _ => HSS.out _ (pa (pd pr))) ?_
  clear hK K
  refine wpAnyG_one (i := 7) (by kernel_rfl) rfl rfl fun K hK => ?_
  go_simp
  refine (first2 _ _ _ _ _ (by first | (go_simp; done) | (go_simp; rfl)) (by first | (go_simp; done) | (go_simp; rfl)) _ HV.out).mono ?_
  rintro e w3 ⟨rfl, hw3⟩
  subst hw3
  refine hK.out _ _ (fun _ => HSS.out _ (pa (pd pr))) ?_
  clear hK K
  have HB9 := Lib.hid (show Below w.heap.size w (v.alloc (.cells #[.int .i64 e1, .int .i64 e2] 33)).drew from pt HBv.out (pd (pa pr)))
  have Z4 := Y4.past (show Below v.heap.size v (v.alloc (.cells #[.int .i64 e1, .int .i64 e2] 33)).drew from pd (pa pr))
  generalize (v.alloc (.cells #[.int .i64 e1, .int .i64 e2] 33)).drew = v9 at *
  have fl := Z4.lt
  refine wpAnyG_one (i := 8) (by kernel_rfl) rfl rfl fun K hK => ?_
  refine store_op (b := b4) (o := 0) (vs := #[.slice SA n c, .int .i64 idle, .int .i64 price, .slice RA rn rc]) (cs' := #[.slice SA n c, .int .i64 idle, .int .i64 price, .slice RA rn rc]) Z4 rfl rfl rfl (by simp) dtask_size (by simp [Value.oneCell']) ?_
  intro wz hR hP
  simp only [Act.put]
  refine hK.out _ _ (fun h => absurd h (by decide)) ?_
  clear hK K
  refine wpAnyG_one (i := 9) (by kernel_rfl) rfl rfl fun K hK => ?_
  go_simp
  refine hK.out _ _ (fun h => absurd h (by decide)) ?_
  clear hK K
  refine wpAnyG_done (by kernel_rfl) ?_
  have hSf := pp HB9.out hP hB4
  clear fl HSS HSd Y1 Y4 Y8 Z4 HB9
  have r0 := hR.cellAt 0 rfl
  have r1 := hR.cellAt 1 rfl
  have r2 := hR.cellAt 2 rfl
  have r3 := hR.cellAt 3 rfl
  go_wp2
  exact bodyPost_ret (v := .tuple #[.agg #[.slice SA n c, .int .i64 idle, .int .i64 price, .slice RA rn rc], .int .i64 E]) (by simp [results, Tryz.results33, go_sem, r0, r1, r2, r3]) rfl ⟨rfl, hSf⟩

end Go.Proofs.YtnfbdkdjoekifaaGreatDoor
end
