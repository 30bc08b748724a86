/- Contract: newField (package field). -/
import Derived.Test.YtapegimghfflhaaMx

section
namespace Go.Proofs.Ytapegimghfflhaa
open Go.RowKit

theorem rel_next {bs : List FBr} {k : Nat} (h : k < bs.length) : (relV bs).take (k + 1) = (relV bs).take k ++ [(bs.getD k default).r] := by
  have h2 : k < (relV bs).length := by unfold relV; rw [List.length_map]; exact h
  rw [List.take_succ_eq_append_getElem h2]
  simp [relV, List.getD, h]
theorem rel_len {bs : List FBr} {k : Nat} (h : k ≤ bs.length) : ((relV bs).take k).length = k := by
  unfold relV
  rw [List.length_take, List.length_map]
  omega
theorem net_size : (Try.prog.info? 49).map (·.size) = some 2 := by kernel_rfl

set_option maxHeartbeats 8000000 in
set_option maxRecDepth 100000 in
theorem newField_any (B : Nat) (N : Nat) (bs : List FBr) (A : Option Addr) (n c : Nat) (w : World) (hok : NetOk N bs) (hb : CellsIn B w A (brsC bs)) (hB : B ≤ w.heap.size) (hn : bs.length = n) :
    Calls Try.prog 34 #[.agg #[.int .i64 (N : Int), .slice A n c]] w fun e w' => ∃ f : Nat, e = .returned (.pointer (some ⟨f, 0, none⟩)) ∧ FldAt w'.heap.size N bs f w' ∧ Below w.heap.size w w' := by
  obtain ⟨j0, hj0, hjz, hjs, hjb⟩ := info_of (show (Try.prog.info? 3).map (fun i => (i.zero, i.size, i.bytes)) = some (some (.int .i64 0), 1, 8) by kernel_rfl)
  obtain ⟨v0, hv0, hvz, hvs, hvb⟩ := info_of (show (Try.prog.info? 81).map (fun i => (i.zero, i.size, i.bytes)) = some (some (.slice none 0 0), 1, 24) by kernel_rfl)
  have HOk := Lib.hid hok
  have HX := Lib.hid (fun W (hW : Below w.heap.size w W) => hb.below (hW.mono hB))
  have HN := Lib.hid hn
  have hm := hok.m
  have hN5 := hok.n
  have HNF := Lib.hid (fun W (hW : Below w.heap.size w W) => newForest_any B N bs A n c W hok (hb.below (hW.mono hB)) (Nat.le_trans hB hW.size) hn)
  clear hb hok hn
  go_enter Try.func34, Try.ntmps34
  go_wp2
  have HB0 := Lib.hid (show Below w.heap.size w (w.alloc (.cells #[.int .i64 (N : Int), .slice A n c] 49)) from pa pr)
  have R0 := Lib.hid (show Blk (w.alloc (.cells #[.int .i64 (N : Int), .slice A n c] 49)) w.heap.size 49 #[.int .i64 (N : Int), .slice A n c] from Blk.newAt rfl)
  generalize w.alloc (.cells #[.int .i64 (N : Int), .slice A n c] 49) = w1_ at *
  have HSS := Lib.hid (show ∀ W, Below w1_.heap.size w1_ W → W.cell? ⟨w.heap.size, 0, none⟩ = some (.int .i64 (N : Int)) ∧ W.cell? ⟨w.heap.size, 1, none⟩ = some (.slice A n c) from fun W hW => ⟨(R0.out.past hW).cellAt 0 rfl, (R0.out.past hW).cellAt 1 rfl⟩)
  refine wp_region_G 5 follows_mixed (fun W => W.cell? ⟨w.heap.size, 0, none⟩ = some (.int .i64 (N : Int)) ∧ W.cell? ⟨w.heap.size, 1, none⟩ = some (.slice A n c)) (HSS.out _ (pd pr)) ?_
  intro hSd inv
  have HSd := Lib.hid hSd
  clear hSd
  refine wpAnyG_take (i := 0) (v := ?_) rfl (by kernel_rfl) (by kernel_rfl) (by kernel_rfl) (by kernel_rfl) (by kernel_rfl) (by decide) (by decide) inv (fun _ _ _ h => h) (Or.inl ⟨by rfl, ?_⟩) HSd.out ?_; rotate_left; (focus (intro W y1; obtain ⟨y1, y2⟩ := y1; go_simp; (first | done | with_reducible rfl))); clear inv; intro inv; simp only [List.getElem_toArray, List.getElem_cons_zero, Act.put, List.setIfInBounds_toArray, List.set_cons_zero, List.set_cons_succ]
  refine wpAnyG_take (i := 1) (v := ?_) rfl (by kernel_rfl) (by kernel_rfl) (by kernel_rfl) (by kernel_rfl) (by kernel_rfl) (by decide) (by decide) inv (fun _ _ _ h => h) (Or.inl ⟨by rfl, ?_⟩) HSd.out ?_; rotate_left; (focus (intro W y1; obtain ⟨y1, y2⟩ := y1; go_simp; (first | done | with_reducible rfl))); clear inv; intro inv; simp only [List.getElem_toArray, List.getElem_cons_zero, List.getElem_cons_succ, Act.put, List.setIfInBounds_toArray, List.set_cons_zero, List.set_cons_succ]
  clear inv
  refine wpAnyG_one (i := 2) (by kernel_rfl) rfl rfl fun K hK => ?_
  go_simp
  refine (HNF.out _ (pd HB0.out)).mono ?_
  rintro e w2 ⟨gl, gh, AO, cO, rfl, hlo, hha, hod, hge, hb2⟩
  have HB2w := Lib.hid (show Below w1_.heap.size w1_ w2 from pt (pd pr) hb2)
  have HLo := Lib.hid hlo
  have HHa := Lib.hid hha
  have HOd := Lib.hid hod
  clear hlo hha hod hge hb2
  refine hK.out _ _ (fun _ => HSS.out _ HB2w.out) ?_
  clear hK K
  refine wpAnyG_one (i := 3) (by kernel_rfl) rfl rfl fun K hK => ?_
  go_simp
  refine hK.out _ _ (fun _ => HSS.out _ HB2w.out) ?_
  clear hK K
  refine wpAnyG_one (i := 4) (by kernel_rfl) rfl rfl fun K hK => ?_
  go_simp
  have HBa := Lib.hid (show Below w2.heap.size w2 (w2.alloc (.cells (fldA (N : Int) A n c (.slice (some ⟨gl, 0, none⟩) N N) (.slice (some ⟨gh, 0, none⟩) N N) (.slice AO (forestV bs N).order.length cO) (.slice none 0 0) (.slice none 0 0)) 107)) from pa pr)
  have HFa := Lib.hid (show Blk (w2.alloc (.cells (fldA (N : Int) A n c (.slice (some ⟨gl, 0, none⟩) N N) (.slice (some ⟨gh, 0, none⟩) N N) (.slice AO (forestV bs N).order.length cO) (.slice none 0 0) (.slice none 0 0)) 107)) w2.heap.size 107 (fldA (N : Int) A n c (.slice (some ⟨gl, 0, none⟩) N N) (.slice (some ⟨gh, 0, none⟩) N N) (.slice AO (forestV bs N).order.length cO) (.slice none 0 0) (.slice none 0 0)) from Blk.newAt rfl)
  have hsz3 : (w2.alloc (.cells (fldA (N : Int) A n c (.slice (some ⟨gl, 0, none⟩) N N) (.slice (some ⟨gh, 0, none⟩) N N) (.slice AO (forestV bs N).order.length cO) (.slice none 0 0) (.slice none 0 0)) 107)).heap.size = w2.heap.size + 1 := by simp
  have HF2 := Lib.hid (show fldA (N : Int) A n c (.slice (some ⟨gl, 0, none⟩) N N) (.slice (some ⟨gh, 0, none⟩) N N) (.slice AO (forestV bs N).order.length cO) (.slice none 0 0) (.slice none 0 0) = #[.int .i64 (N : Int), .slice A n c, .slice (some ⟨gl, 0, none⟩) N N, .slice (some ⟨gh, 0, none⟩) N N, .slice AO (forestV bs N).order.length cO, .slice none 0 0, .slice none 0 0] from rfl)
  rw [HF2.out] at HBa HFa hsz3
  generalize w2.alloc (.cells #[.int .i64 (N : Int), .slice A n c, .slice (some ⟨gl, 0, none⟩) N N, .slice (some ⟨gh, 0, none⟩) N N, .slice AO (forestV bs N).order.length cO, .slice none 0 0, .slice none 0 0] 107) = w3 at *
  have HBx := Lib.hid (show Below w1_.heap.size w1_ w3 from pt HB2w.out HBa.out)
  refine hK.out _ _ (fun _ => HSS.out _ HBx.out) ?_
  clear hK K
  refine wpAnyG_one (i := 5) (by kernel_rfl) rfl rfl fun K hK => ?_
  go_simp
  refine hK.out _ _ (fun h => absurd h (by decide)) ?_
  clear hK K
  refine wpAnyG_done (by kernel_rfl) ?_
  have HBw3 := Lib.hid (show Below w.heap.size w w3 from pt HB0.out HBx.out)
  have HLo3 := Lib.hid (show IntsIn w2.heap.size w3 (some ⟨gl, 0, none⟩) (forestV bs N).low from (intA_ints HLo.out).below HBa.out)
  have HHa3 := Lib.hid (show IntsIn w2.heap.size w3 (some ⟨gh, 0, none⟩) (forestV bs N).hangs from (intA_ints HHa.out).below HBa.out)
  have HOd3 := Lib.hid (show IntsIn w2.heap.size w3 AO ((forestV bs N).order.map (fun (k : Nat) => (k : Int))) from HOd.out.below HBa.out)
  have HR3 := Lib.hid (show w1_.heap.size ≤ w2.heap.size from HB2w.out.size)
  have HR0 := Lib.hid (show w.heap.size < w1_.heap.size from R0.out.lt)
  have R3 := Lib.hid (show Blk w3 w.heap.size 49 #[.int .i64 (N : Int), .slice A n c] from R0.out.past HBx.out)
  have hx3 := R3.out.cellAt 1 rfl
  have hl3 := R3.out.lt
  clear HSS HSd HB2w HBx HLo HHa HOd HBa HB0 R0 HF2 HNF
  generalize hfe : w2.heap.size = f at *
  have HMk0 := Lib.hid (show FldMk w3.heap.size f N A n c (.slice (some ⟨gl, 0, none⟩) N N) (.slice (some ⟨gh, 0, none⟩) N N) (.slice AO (forestV bs N).order.length cO) [] [] none none 0 0 w3 from
    ⟨HFa.out, by omega, World.ownsRow_nil _ _ _ _, fun _ => 0, World.ownsRow_nil _ _ _ _, fun i hi => absurd hi (Nat.not_lt_zero _)⟩)
  have hqb : f + 1 ≤ w3.heap.size := by omega
  have hwf : w.heap.size < f := Nat.lt_of_lt_of_le HR0.out HR3.out
  clear HFa hsz3 hfe HR3 HR0
  generalize hqe : w3.heap.size = qb at *
  have HQe := Lib.hid hqe
  clear hqe
  go_wp2
  clear hx3
  go_loopw [14] (fun iv wr => ∃ (k : Nat) (LA RA : Option Addr) (lc rc : Nat), iv = .int .i64 (k : Int) ∧ k ≤ n ∧ FldMk qb f N A n c (.slice (some ⟨gl, 0, none⟩) N N) (.slice (some ⟨gh, 0, none⟩) N N) (.slice AO (forestV bs N).order.length cO) ((relV bs).take k) (loopsTo bs (forestV bs N).hangs N k) LA RA lc rc wr ∧ Below f w3 wr ∧ qb ≤ wr.heap.size) (fun iv _ => n - (intOf iv).toNat)
  case atStart => exact ⟨0, none, none, 0, 0, rfl, Nat.zero_le _, HMk0.out, Below.refl _ _, by rw [HQe.out]; exact Nat.le_refl _⟩
  case round =>
    clear HMk0
    obtain ⟨k, LA, RA, lc, rc, rfl, hk, hmk, hq, hqs⟩ := hrel
    have HM := Lib.hid hmk
    have HQ := Lib.hid hq
    have HW := Lib.hid (show Below w.heap.size w wr from HBw3.out.trans (hq.mono (Nat.le_of_lt hwf)))
    clear hmk hq
    by_cases hlt : k < n
    · have hk' : k < bs.length := by rw [HN.out]; exact hlt
      obtain ⟨bb, ob, hAe, hbb, hcb⟩ := brs_at (HX.out wr HW.out) hk'
      obtain ⟨u0, u1, u2, u3⟩ := hcb k hk'
      have hbbw : bb < wr.heap.size := Nat.lt_of_lt_of_le hbb (Nat.le_trans hB HW.out.size)
      have HRn := Lib.hid (rel_next hk')
      have HRl := Lib.hid (rel_len (Nat.le_of_lt hk'))
      have HLn := Lib.hid (show loopsTo bs (forestV bs N).hangs N (k + 1) = if hasC (forestV bs N).hangs (k : Int) then loopsTo bs (forestV bs N).hangs N k else loopsTo bs (forestV bs N).hangs N k ++ [loopV bs (forestV bs N).hangs N k] from rfl)
      have HLl := Lib.hid (loopsTo_len bs (forestV bs N).hangs N k)
      have k0 : (0 : Int) ≤ (k : Int) := by omega
      have k1 : (k : Int) < (n : Int) := by omega
      clear hcb
      generalize bs.getD k default = x at *
      obtain ⟨xa, xb, xr, xt⟩ := x
      dsimp only at *
      have HXs := Lib.hid (show ∃ xs, xs = (relV bs).take k from ⟨_, rfl⟩)
      obtain ⟨xs, hxs⟩ := HXs.out
      rw [← hxs] at HM HRn HRl
      have HXe := Lib.hid hxs
      clear HXs hxs
      have hxl : xs.length ≤ 7 := by rw [HRl.out]; omega
      have HP1 := Lib.hid (show Blk (wr.alloc (.cells #[.int .i64 xa, .int .i64 xb, .int .i64 xr, .int .i64 xt] 79)) wr.heap.size 79 #[.int .i64 xa, .int .i64 xb, .int .i64 xr, .int .i64 xt] from Blk.newAt rfl)
      have HM1 := Lib.hid (HM.out.past (show Below wr.heap.size wr (wr.alloc (.cells #[.int .i64 xa, .int .i64 xb, .int .i64 xr, .int .i64 xt] 79)) from pa pr))
      have HQ1 := Lib.hid (show Below f w3 (wr.alloc (.cells #[.int .i64 xa, .int .i64 xb, .int .i64 xr, .int .i64 xt] 79)) from HQ.out.alloc (by omega) _)
      have hqs1 : qb ≤ (wr.alloc (.cells #[.int .i64 xa, .int .i64 xb, .int .i64 xr, .int .i64 xt] 79)).heap.size := Nat.le_trans hqs (by simp)
      subst hAe
      go_wp2
      clear u0 u1 u2 u3 hbbw
      generalize wr.alloc (.cells #[.int .i64 xa, .int .i64 xb, .int .i64 xr, .int .i64 xt] 79) = w4 at *
      generalize wr.heap.size = pb at *
      have HSS := Lib.hid (show ∀ W, Below w4.heap.size w4 W → W.cell? ⟨f, 6, none⟩ = some (.slice RA xs.length rc) ∧ W.cell? ⟨pb, 2, none⟩ = some (.int .i64 xr) from fun W hW => ⟨(HM1.out.past hW).blk.cellAt 6 rfl, (HP1.out.past hW).cellAt 2 rfl⟩)
      refine wp_region_G 11 follows_mixed (fun W => W.cell? ⟨f, 6, none⟩ = some (.slice RA xs.length rc) ∧ W.cell? ⟨pb, 2, none⟩ = some (.int .i64 xr)) (HSS.out _ (pd pr)) ?_
      intro hSd inv
      have HSd := Lib.hid hSd
      clear hSd
      refine wpAnyG_take (i := 0) (v := ?_) rfl (by kernel_rfl) (by kernel_rfl) (by kernel_rfl) (by kernel_rfl) (by kernel_rfl) (by decide) (by decide) inv (fun _ _ _ h => h) (Or.inl ⟨by rfl, ?_⟩) HSd.out ?_; rotate_left; (focus (intro W y1; obtain ⟨y1, y2⟩ := y1; go_simp; (first | done | with_reducible rfl))); clear inv; intro inv; simp only [List.getElem_toArray, List.getElem_cons_zero, Act.put, List.setIfInBounds_toArray, List.set_cons_zero, List.set_cons_succ]
      refine wpAnyG_take (i := 1) (v := ?_) rfl (by kernel_rfl) (by kernel_rfl) (by kernel_rfl) (by kernel_rfl) (by kernel_rfl) (by decide) (by decide) inv (fun _ _ _ h => h) (Or.inl ⟨by rfl, ?_⟩) HSd.out ?_; rotate_left; (focus (intro W y1; obtain ⟨y1, y2⟩ := y1; go_simp; (first | done | with_reducible rfl))); clear inv; intro inv; simp only [List.getElem_toArray, List.getElem_cons_zero, List.getElem_cons_succ, Act.put, List.setIfInBounds_toArray, List.set_cons_zero, List.set_cons_succ]
      refine wpAnyG_take (i := 2) (v := ?_) rfl (by kernel_rfl) (by kernel_rfl) (by kernel_rfl) (by kernel_rfl) (by kernel_rfl) (by decide) (by decide) inv (fun _ _ _ h => h) (Or.inl ⟨by rfl, ?_⟩) HSd.out ?_; rotate_left; (focus (intro W y1; obtain ⟨y1, y2⟩ := y1; go_simp; (first | done | with_reducible rfl))); clear inv; intro inv; simp only [List.getElem_toArray, List.getElem_cons_zero, List.getElem_cons_succ, Act.put, List.setIfInBounds_toArray, List.set_cons_zero, List.set_cons_succ]
      refine wpAnyG_take (i := 3) (v := ?_) rfl (by kernel_rfl) (by kernel_rfl) (by kernel_rfl) (by kernel_rfl) (by kernel_rfl) (by decide) (by decide) inv (fun _ _ _ h => h) (Or.inl ⟨by rfl, ?_⟩) HSd.out ?_; rotate_left; (focus (intro W y1; obtain ⟨y1, y2⟩ := y1; go_simp; (first | done | with_reducible rfl))); clear inv; intro inv; simp only [List.getElem_toArray, List.getElem_cons_zero, List.getElem_cons_succ, Act.put, List.setIfInBounds_toArray, List.set_cons_zero, List.set_cons_succ]
      refine wpAnyG_take (i := 4) (v := ?_) rfl (by kernel_rfl) (by kernel_rfl) (by kernel_rfl) (by kernel_rfl) (by kernel_rfl) (by decide) (by decide) inv (fun _ _ _ h => h) (Or.inl ⟨by rfl, ?_⟩) HSd.out ?_; rotate_left; (focus (intro W y1; obtain ⟨y1, y2⟩ := y1; go_simp; (first | done | with_reducible rfl))); clear inv; intro inv; simp only [List.getElem_toArray, List.getElem_cons_zero, List.getElem_cons_succ, Act.put, List.setIfInBounds_toArray, List.set_cons_zero, List.set_cons_succ]
      refine wpAnyG_take (i := 5) (v := ?_) rfl (by kernel_rfl) (by kernel_rfl) (by kernel_rfl) (by kernel_rfl) (by kernel_rfl) (by decide) (by decide) inv (fun _ _ _ h => h) (Or.inl ⟨by rfl, ?_⟩) HSd.out ?_; rotate_left; (focus (intro W y1; obtain ⟨y1, y2⟩ := y1; go_simp; (first | done | with_reducible rfl))); clear inv; intro inv; simp only [List.getElem_toArray, List.getElem_cons_zero, List.getElem_cons_succ, Act.put, List.setIfInBounds_toArray, List.set_cons_zero, List.set_cons_succ]
      refine wpAnyG_take (i := 6) (v := ?_) rfl (by kernel_rfl) (by kernel_rfl) (by kernel_rfl) (by kernel_rfl) (by kernel_rfl) (by decide) (by decide) inv (fun _ _ _ h => h) (Or.inl ⟨by rfl, ?_⟩) HSd.out ?_; rotate_left; (focus (intro W y1; obtain ⟨y1, y2⟩ := y1; go_simp; (first | done | with_reducible rfl))); clear inv; intro inv; simp only [List.getElem_toArray, List.getElem_cons_zero, List.getElem_cons_succ, Act.put, List.setIfInBounds_toArray, List.set_cons_zero, List.set_cons_succ]
      clear inv
      have hfl := (HM1.out.past (show Below w4.heap.size w4 w4.drew from pd pr)).blk.lt
      refine wpAnyG_one (i := 7) (by kernel_rfl) rfl rfl fun K hK => ?_
      go_simp
      have HBr := Lib.hid (show Below w4.heap.size w4 ((w4.alloc (.cells #[.int .i64 xr] 3)).drew) from pd (pa pr))
      have HM2 := Lib.hid (HM1.out.past HBr.out)
      have HQ2 := Lib.hid (HQ1.out.trans (HBr.out.mono (by omega)))
      have HC1 := Lib.hid (show CellsIn (w4.heap.size + 1) ((w4.alloc (.cells #[.int .i64 xr] 3)).drew) (some ⟨w4.heap.size, 0, none⟩) [.int .i64 xr] from cells_newO w4 3 #[.int .i64 xr])
      have hsx : w4.heap.size ≤ ((w4.alloc (.cells #[.int .i64 xr] 3)).drew).heap.size := by simp [World.drew]
      generalize (w4.alloc (.cells #[.int .i64 xr] 3)).drew = wx at *
      refine hK.out _ _ (fun _ => HSS.out _ HBr.out) ?_
      clear hK K
      refine wpAnyG_one (i := 8) (by kernel_rfl) rfl rfl fun K hK => ?_
      refine wp_append_cells _ (.tmp 23) (.tmp 26) _ (by rfl) qb 3 j0 _ 1 8 Try.underlying81 hj0 hjz hjs hjb (by rfl) (by omega) (.slice RA xs.length rc) xs.length (xs.map (Value.int .i64)) (by rfl) HM2.out.rel (w4.heap.size + 1) (some ⟨w4.heap.size, 0, none⟩) 1 1 [.int .i64 xr] (by rfl) HC1.out rfl (by simp [Value.oneCell']) (by simp only [maxLen]; omega) (by omega) (by omega) ?_
      intro v4 w5 hown4 hg4 hat4
      obtain ⟨A4, c4, rfl, hc4, _⟩ := own_form hown4
      have hb5 := HM2.out.blk.grown hg4 (ownNe HM2.out.rel HM2.out.blk (by decide))
      have HQ5 := Lib.hid (show Below f w3 (w5.setCell ⟨f, 6, none⟩ (.slice A4 (xs.length + 1) c4)) from (HQ2.out.grown hg4 (by omega) (fun q hq => Nat.le_trans (by omega) (HM2.out.rel.lt q hq).1)).setCell (p := ⟨f, 6, none⟩) (Nat.le_refl _) _)
      have HM5 := Lib.hid (HM2.out.rel1 hown4 hg4 hat4)
      have hqs5 : qb ≤ (w5.setCell ⟨f, 6, none⟩ (.slice A4 (xs.length + 1) c4)).heap.size := by have := hg4.size; simp; omega
      have z6 := hb5.cellAt 6 rfl
      have zf := hb5.frozen 6
      have HS5 := Lib.hid (show w5.cell? ⟨f, 6, none⟩ = some (.slice RA xs.length rc) ∧ w5.cell? ⟨pb, 2, none⟩ = some (.int .i64 xr) from ⟨hb5.cellAt 6 rfl, ((HP1.out.past HBr.out).grown hg4 (ownNe HM2.out.rel (HP1.out.past HBr.out) (by decide))).cellAt 2 rfl⟩)
      have zl := hb5.lt
      clear hown4 hg4 hat4 HC1 HM2 HQ2 HBr hsx hb5
      refine hK.out _ _ (fun _ => HS5.out) ?_
      clear hK K
      refine wpAnyG_one (i := 9) (by kernel_rfl) rfl rfl fun K hK => ?_
      go_simp
      refine hK.out _ _ (fun _ => HS5.out) ?_
      clear hK K
      refine wpAnyG_one (i := 10) (by kernel_rfl) rfl rfl fun K hK => ?_
      go_simp
      refine hK.out _ _ (fun _ => HS5.out) ?_
      clear hK K
      refine wpAnyG_one (i := 11) (by kernel_rfl) rfl rfl fun K hK => ?_
      go_simp
      refine hK.out _ _ (fun h => absurd h (by decide)) ?_
      clear hK K
      refine wpAnyG_done (by kernel_rfl) ?_
      generalize w5.setCell ⟨f, 6, none⟩ (.slice A4 (xs.length + 1) c4) = w6 at *
      rw [← HRn.out] at HM5
      have HP5 := HP1
      clear z6 zf zl HS5 HSS HSd HM1 HQ1 hqs1 hxl HP1 HP5 HRl HRn HXe HM HQ
      have HMl := Lib.hid (show ((relV bs).take (k + 1)).length = k + 1 from rel_len hk')
      have x3 : w6.cell? ⟨f, 3, none⟩ = some (.slice (some ⟨gh, 0, none⟩) N N) := HM5.out.blk.cellAt 3 rfl
      have x5 : w6.cell? ⟨f, 5, none⟩ = some (.slice LA (loopsTo bs (forestV bs N).hangs N k).length lc) := HM5.out.blk.cellAt 5 rfl
      have xl := HM5.out.blk.lt
      have HW6 := Lib.hid (show Below w.heap.size w w6 from HBw3.out.trans (HQ5.out.mono (Nat.le_of_lt hwf)))
      have HCt := Lib.hid (fun W (hW : Below f w3 W) => containsInt_any f (forestV bs N).hangs (some ⟨gh, 0, none⟩) N N (k : Int) W (HHa3.out.below hW) (forest_ok HOk.out).hl (by omega))
      cases hc : hasC (forestV bs N).hangs (k : Int)
      · have HLx := Lib.hid (show loopsTo bs (forestV bs N).hangs N (k + 1) = loopsTo bs (forestV bs N).hangs N k ++ [loopV bs (forestV bs N).hangs N k] from by rw [HLn.out, if_neg (by rw [hc]; decide)])
        rw [hc] at HCt
        clear HLn hc
        go_wp2_with (go_at_call 52; (go_must (refine (HCt.out _ HQ5.out).mono ?_)); rintro e w7 ⟨rfl, rfl⟩)
        have HLp := Lib.hid (fun W (hW : Below w6.heap.size w6 W) => loopFd_any f f N bs (forestV bs N).hangs (posN (forestV bs N).order) (some ⟨bb, ob, none⟩) (some ⟨gh, 0, none⟩) n c N _ _ _ _ k W ((HM5.out.past hW).blk) ((HX.out W (HW6.out.trans (hW.mono HW6.out.size))).more (by omega)) (HHa3.out.below (HQ5.out.trans (hW.mono (by omega)))) (Nat.le_of_lt (Nat.lt_of_lt_of_le xl hW.size)) (forest_hung HOk.out) HN.out HOk.out hlt)
        have hvl : (loopV bs (forestV bs N).hangs N k).length = n := by rw [loopV_len]; exact HN.out
        have hll : (loopsTo bs (forestV bs N).hangs N k).length ≤ 7 := by have := HLl.out; omega
        generalize loopV bs (forestV bs N).hangs N k = lv at *
        generalize loopsTo bs (forestV bs N).hangs N k = Ls at *
        have HSS := Lib.hid (show ∀ W, Below w6.heap.size w6 W → W.cell? ⟨f, 5, none⟩ = some (.slice LA Ls.length lc) ∧ True from fun W hW => ⟨(HM5.out.past hW).blk.cellAt 5 rfl, trivial⟩)
        clear x3 x5 HHa3 HCt
        refine wp_region_G 12 follows_mixed (fun W => W.cell? ⟨f, 5, none⟩ = some (.slice LA Ls.length lc) ∧ True) (HSS.out _ (pd pr)) ?_
        intro hSd inv
        have HSd := Lib.hid hSd
        clear hSd
        refine wpAnyG_take (i := 0) (v := ?_) rfl (by kernel_rfl) (by kernel_rfl) (by kernel_rfl) (by kernel_rfl) (by kernel_rfl) (by decide) (by decide) inv (fun _ _ _ h => h) (Or.inl ⟨by rfl, ?_⟩) HSd.out ?_; rotate_left; (focus (intro W y1; obtain ⟨y1, y2⟩ := y1; go_simp; (first | done | with_reducible rfl))); clear inv; intro inv; simp only [List.getElem_toArray, List.getElem_cons_zero, Act.put, List.setIfInBounds_toArray, List.set_cons_zero, List.set_cons_succ]
        refine wpAnyG_take (i := 1) (v := ?_) rfl (by kernel_rfl) (by kernel_rfl) (by kernel_rfl) (by kernel_rfl) (by kernel_rfl) (by decide) (by decide) inv (fun _ _ _ h => h) (Or.inl ⟨by rfl, ?_⟩) HSd.out ?_; rotate_left; (focus (intro W y1; obtain ⟨y1, y2⟩ := y1; go_simp; (first | done | with_reducible rfl))); clear inv; intro inv; simp only [List.getElem_toArray, List.getElem_cons_zero, List.getElem_cons_succ, Act.put, List.setIfInBounds_toArray, List.set_cons_zero, List.set_cons_succ]
        refine wpAnyG_take (i := 2) (v := ?_) rfl (by kernel_rfl) (by kernel_rfl) (by kernel_rfl) (by kernel_rfl) (by kernel_rfl) (by decide) (by decide) inv (fun _ _ _ h => h) (Or.inl ⟨by rfl, ?_⟩) HSd.out ?_; rotate_left; (focus (intro W y1; obtain ⟨y1, y2⟩ := y1; go_simp; (first | done | with_reducible rfl))); clear inv; intro inv; simp only [List.getElem_toArray, List.getElem_cons_zero, List.getElem_cons_succ, Act.put, List.setIfInBounds_toArray, List.set_cons_zero, List.set_cons_succ]
        refine wpAnyG_take (i := 3) (v := ?_) rfl (by kernel_rfl) (by kernel_rfl) (by kernel_rfl) (by kernel_rfl) (by kernel_rfl) (by decide) (by decide) inv (fun _ _ _ h => h) (Or.inl ⟨by rfl, ?_⟩) HSd.out ?_; rotate_left; (focus (intro W y1; obtain ⟨y1, y2⟩ := y1; go_simp; (first | done | with_reducible rfl))); clear inv; intro inv; simp only [List.getElem_toArray, List.getElem_cons_zero, List.getElem_cons_succ, Act.put, List.setIfInBounds_toArray, List.set_cons_zero, List.set_cons_succ]
        refine wpAnyG_take (i := 4) (v := ?_) rfl (by kernel_rfl) (by kernel_rfl) (by kernel_rfl) (by kernel_rfl) (by kernel_rfl) (by decide) (by decide) inv (fun _ _ _ h => h) (Or.inl ⟨by rfl, ?_⟩) HSd.out ?_; rotate_left; (focus (intro W y1; obtain ⟨y1, y2⟩ := y1; go_simp; (first | done | with_reducible rfl))); clear inv; intro inv; simp only [List.getElem_toArray, List.getElem_cons_zero, List.getElem_cons_succ, Act.put, List.setIfInBounds_toArray, List.set_cons_zero, List.set_cons_succ]
        refine wpAnyG_take (i := 5) (v := ?_) rfl (by kernel_rfl) (by kernel_rfl) (by kernel_rfl) (by kernel_rfl) (by kernel_rfl) (by decide) (by decide) inv (fun _ _ _ h => h) (Or.inl ⟨by rfl, ?_⟩) HSd.out ?_; rotate_left; (focus (intro W y1; obtain ⟨y1, y2⟩ := y1; go_simp; (first | done | with_reducible rfl))); clear inv; intro inv; simp only [List.getElem_toArray, List.getElem_cons_zero, List.getElem_cons_succ, Act.put, List.setIfInBounds_toArray, List.set_cons_zero, List.set_cons_succ]
        refine wpAnyG_take (i := 6) (v := ?_) rfl (by kernel_rfl) (by kernel_rfl) (by kernel_rfl) (by kernel_rfl) (by kernel_rfl) (by decide) (by decide) inv (fun _ _ _ h => h) (Or.inl ⟨by rfl, ?_⟩) HSd.out ?_; rotate_left; (focus (intro W y1; obtain ⟨y1, y2⟩ := y1; go_simp; (first | done | with_reducible rfl))); clear inv; intro inv; simp only [List.getElem_toArray, List.getElem_cons_zero, List.getElem_cons_succ, Act.put, List.setIfInBounds_toArray, List.set_cons_zero, List.set_cons_succ]
        clear inv
        refine wpAnyG_one (i := 7) (by kernel_rfl) rfl rfl fun K hK => ?_
        go_simp
        refine (HLp.out _ (pd pr)).mono ?_
        rintro e w8 ⟨rfl, hv8, hb8⟩
        have HB8 := Lib.hid (show Below w6.heap.size w6 w8 from pt (pd pr) hb8)
        have hgi6 : w6.heap.size ≤ w6.drew.heap.size := (show Below w6.heap.size w6 w6.drew from pd pr).size
        generalize w6.drew.heap.size = gi at *
        have HV8 := Lib.hid hv8
        have HM8 := Lib.hid (HM5.out.past HB8.out)
        have HQ8 := Lib.hid (HQ5.out.trans (HB8.out.mono (by omega)))
        clear hv8 hb8 HLp
        refine hK.out _ _ (fun _ => HSS.out _ HB8.out) ?_
        clear hK K
        refine wpAnyG_one (i := 8) (by kernel_rfl) rfl rfl fun K hK => ?_
        go_simp
        have HBr := Lib.hid (show Below w8.heap.size w8 (w8.alloc (.cells #[.slice (some ⟨gi, 0, none⟩) n n] 81)) from pa pr)
        have HM9 := Lib.hid (HM8.out.past HBr.out)
        have HV9 := Lib.hid (HV8.out.past HBr.out)
        have HQ9 := Lib.hid (HQ8.out.trans (HBr.out.mono (Nat.le_trans (by omega : f ≤ w6.heap.size) HB8.out.size)))
        have HC9 := Lib.hid (show CellsIn (w8.heap.size + 1) (w8.alloc (.cells #[.slice (some ⟨gi, 0, none⟩) n n] 81)) (some ⟨w8.heap.size, 0, none⟩) [.slice (some ⟨gi, 0, none⟩) n n] from cells_newO w8 81 #[.slice (some ⟨gi, 0, none⟩) n n])
        have HB9 := Lib.hid (show Below w6.heap.size w6 (w8.alloc (.cells #[.slice (some ⟨gi, 0, none⟩) n n] 81)) from pt HB8.out HBr.out)
        have hsx : w8.heap.size ≤ (w8.alloc (.cells #[.slice (some ⟨gi, 0, none⟩) n n] 81)).heap.size := by simp
        have hs8 : w6.heap.size ≤ w8.heap.size := HB8.out.size
        generalize w8.alloc (.cells #[.slice (some ⟨gi, 0, none⟩) n n] 81) = w9 at *
        refine hK.out _ _ (fun _ => HSS.out _ HB9.out) ?_
        clear hK K
        obtain ⟨g, hg1, hg2⟩ := HM9.out.lps
        have HG2 := Lib.hid hg2
        have hne9 : some gi ≠ (Value.slice A4 ((relV bs).take (k + 1)).length c4).ownBlock := fun e => by
          have := (HM5.out.rel.lt gi e.symm).2
          omega
        clear hg2
        refine wpAnyG_one (i := 9) (by kernel_rfl) rfl rfl fun K hK => ?_
        refine wp_append_cells _ (.tmp 42) (.tmp 46) _ (by rfl) qb 81 v0 _ 1 24 Try.underlying105 hv0 hvz hvs hvb (by rfl) (by omega) (.slice LA Ls.length lc) Ls.length (vecsC g n Ls.length) (by rfl) hg1 (w8.heap.size + 1) (some ⟨w8.heap.size, 0, none⟩) 1 1 [.slice (some ⟨gi, 0, none⟩) n n] (by rfl) HC9.out rfl (by simp [Value.oneCell']) (by simp only [maxLen]; omega) (by omega) (by omega) ?_
        intro v5 wa hown5 hg5 hat5
        obtain ⟨A5, c5, rfl, hc5, _⟩ := own_form hown5
        have hb5 := HM9.out.blk.grown hg5 (ownNe hg1 HM9.out.blk (by decide))
        have HQa := Lib.hid (show Below f w3 (wa.setCell ⟨f, 5, none⟩ (.slice A5 (Ls.length + 1) c5)) from (HQ9.out.grown hg5 (by omega) (fun q hq => Nat.le_trans (by omega) (hg1.lt q hq).1)).setCell (p := ⟨f, 5, none⟩) (Nat.le_refl _) _)
        have HMa := Lib.hid (HM9.out.loop1 HV9.out (by omega) hne9 hg1 HG2.out hown5 hg5)
        have hqsa : qb ≤ (wa.setCell ⟨f, 5, none⟩ (.slice A5 (Ls.length + 1) c5)).heap.size := by have := hg5.size; simp; omega
        have z6 : wa.cell? ⟨f, 5, none⟩ = some (.slice LA Ls.length lc) := hb5.cellAt 5 rfl
        have zf := hb5.frozen 5
        have zl := hb5.lt
        have HS5 := Lib.hid (show wa.cell? ⟨f, 5, none⟩ = some (.slice LA Ls.length lc) ∧ True from ⟨z6, trivial⟩)
        clear hown5 hg5 hat5 hg1 HG2 HC9 HM9 HQ9 HBr hsx hb5 HM8 HQ8 HV8 HV9 HB8 HB9
        refine hK.out _ _ (fun _ => HS5.out) ?_
        clear hK K
        refine wpAnyG_one (i := 10) (by kernel_rfl) rfl rfl fun K hK => ?_
        go_simp
        refine hK.out _ _ (fun _ => HS5.out) ?_
        clear hK K
        refine wpAnyG_one (i := 11) (by kernel_rfl) rfl rfl fun K hK => ?_
        go_simp
        refine hK.out _ _ (fun _ => HS5.out) ?_
        clear hK K
        refine wpAnyG_one (i := 12) (by kernel_rfl) rfl rfl fun K hK => ?_
        go_simp
        refine hK.out _ _ (fun h => absurd h (by decide)) ?_
        clear hK K
        refine wpAnyG_done (by kernel_rfl) ?_
        generalize wa.setCell ⟨f, 5, none⟩ (.slice A5 (Ls.length + 1) c5) = wb at *
        clear z6 zf zl HS5 HSS HSd HM5 HQ5
        go_wp2
        go_roundw
        case rel => exact ⟨k + 1, A5, A4, c5, c4, by go_num, by omega, by rw [HLx.out]; exact HMa.out, HQa.out, hqsa⟩
        case measure => simp [intOf]; omega
      · have HLx := Lib.hid (show loopsTo bs (forestV bs N).hangs N (k + 1) = loopsTo bs (forestV bs N).hangs N k from by rw [HLn.out, if_pos hc])
        rw [hc] at HCt
        clear HLn hc
        go_wp2_with (go_at_call 52; (go_must (refine (HCt.out _ HQ5.out).mono ?_)); rintro e w7 ⟨rfl, rfl⟩)
        go_roundw
        case rel => exact ⟨k + 1, LA, A4, lc, c4, by go_num, by omega, by rw [HLx.out]; exact HM5.out, HQ5.out, hqs5⟩
        case measure => simp [intOf]; omega
    · obtain rfl : k = n := by omega
      have HFd := Lib.hid (show FldAt wr.heap.size N bs f wr from by
        have h := HM.out
        have e1 : (relV bs).take k = relV bs := List.take_of_length_le (by unfold relV; rw [List.length_map, HN.out]; exact Nat.le_refl _)
        have e2 : loopsTo bs (forestV bs N).hangs N k = loopsV bs N := by unfold loopsV; rw [HN.out]
        rw [e1, e2] at h
        have hf := h.blk.lt
        have hfw : f ≤ wr.heap.size := Nat.le_of_lt hf
        rw [← HN.out] at h
        exact h.fld ((HX.out wr HW.out).more (Nat.le_trans hB HW.out.size)) ((HLo3.out.below HQ.out).more hfw) ((HHa3.out.below HQ.out).more hfw) ((HOd3.out.below HQ.out).more hfw) HOk.out)
      clear HM HQ
      go_wp2
      go_ret
      exact ⟨f, rfl, HFd.out, HW.out⟩
end Go.Proofs.Ytapegimghfflhaa
end
