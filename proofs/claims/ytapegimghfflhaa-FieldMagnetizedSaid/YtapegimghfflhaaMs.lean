/- Contract: newForest (package field). Printed by a program (gen_f2for.py). -/
import Derived.Test.YtapegimghfflhaaMn
import Derived.Test.YtapegimghfflhaaMr
import Derived.Test.YtapegimghfflhaaMf
import Derived.Deep.DeepCutAuto

section
namespace Go.Proofs.Ytapegimghfflhaa
open Go.RowKit

theorem wpAnyG_threeE {P : Program} {ops : Array Oper} {md : Region.Mode} {Q : Exit → Act → World → Prop} {S : World → Prop} {n : Nat} {i k l : Nat} {oi ok ol : Oper} {fuel : Nat} {listed : Array Bool} {a : Act} {w : World} (hr : Region.ready md ops listed = [i, k, l]) (hi : ops[i]? = some oi) (hk : ops[k]? = some ok) (hl : ops[l]? = some ol) (gi : oi.guard = none) (gk : ok.guard = none) (gl : ol.guard = none)
    (h1 : ∀ K' : Act → World → Prop, Hid (∀ a w, (i < n → S w) → wpAnyG P md ops Q S n fuel (listed.setIfInBounds i true) a w → K' a w) → oi.wp P a w K' Q)
    (h2 : ∀ K' : Act → World → Prop, Hid (∀ a w, (k < n → S w) → wpAnyG P md ops Q S n fuel (listed.setIfInBounds k true) a w → K' a w) → ok.wp P a w K' Q)
    (h3 : ∀ K' : Act → World → Prop, Hid (∀ a w, (l < n → S w) → wpAnyG P md ops Q S n fuel (listed.setIfInBounds l true) a w → K' a w) → ol.wp P a w K' Q) : wpAnyG P md ops Q S n (fuel + 1) listed a w := by
  refine ⟨fun h0 => (by rw [hr] at h0; cases h0), fun j hj => ?_⟩
  rw [hr] at hj
  have hj' : j = i ∨ j = k ∨ j = l := by simpa using hj
  rcases hj' with rfl | rfl | rfl
  · refine wpOp_step hi fun K' hK => ?_
    rw [if_pos (by simp [Region.wanted, gi])]
    exact h1 K' (Lib.hid fun a w h1 h2 => hK a w ⟨h1, h2⟩)
  · refine wpOp_step hk fun K' hK => ?_
    rw [if_pos (by simp [Region.wanted, gk])]
    exact h2 K' (Lib.hid fun a w h1 h2 => hK a w ⟨h1, h2⟩)
  · refine wpOp_step hl fun K' hK => ?_
    rw [if_pos (by simp [Region.wanted, gl])]
    exact h3 K' (Lib.hid fun a w h1 h2 => hK a w ⟨h1, h2⟩)
theorem forest_size : (Try.prog.info? 103).map (·.size) = some 3 := by kernel_rfl
theorem ownPut {w W : World} {base size n g : Nat} {e : TypeId} {v : Value} {xs : List Value} (ho : w.ownsRow base e size v n xs) (hp : Put w W g) (hg : g < base) : W.ownsRow base e size v n xs := by
  obtain ⟨h1, h2⟩ := ho
  refine ⟨h1, ?_⟩
  rcases h2 with h2 | ⟨g', cap, cur, h3, h4, h5, h6⟩
  · exact .inl h2
  · exact .inr ⟨g', cap, cur, h3, h4, (hp.other g' (by omega)).trans h5, h6⟩
theorem ints_own {w : World} {base n c : Nat} {A : Option Addr} {l : List Nat} (ho : w.ownsRow base 3 1 (.slice A n c) n (l.map (fun (k : Nat) => Value.int .i64 (k : Int)))) : IntsIn w.heap.size w A (l.map (fun (k : Nat) => (k : Int))) := by
  rcases cellsIn_of_own ho with h | ⟨b, off, h1, h2, h3⟩
  · refine .inl ?_
    have := congrArg List.length h
    simp at this
    simp [this]
  · refine .inr ⟨b, off, h1, h2, fun j hj => (h3 j (by simpa using hj)).trans ?_⟩
    simp at hj
    simp [List.getD, hj]
/-- A forest at its beginning: its box, both rows. -/
structure ForOk (base N p gl gh : Nat) (w : World) : Prop where
  blk : Blk w p 103 #[.slice (some ⟨gl, 0, none⟩) N N, .slice (some ⟨gh, 0, none⟩) N N, .slice none 0 0]
  low : Blk w gl 3 (intA (List.replicate N (-1)))
  hangs : Blk w gh 3 (intA (List.replicate N (-1)))
  ge : base ≤ p ∧ base ≤ gl ∧ base ≤ gh
  n1 : p ≠ gl
  n2 : p ≠ gh
  n3 : gl ≠ gh

set_option maxHeartbeats 8000000 in
set_option maxRecDepth 100000 in
theorem newForest_any (B : Nat) (N : Nat) (bs : List FBr) (A : Option Addr) (n c : Nat) (w : World) (hok : NetOk N bs) (hb : CellsIn B w A (brsC bs)) (hB : B ≤ w.heap.size) (hn : bs.length = n) :
    Calls Try.prog 51 #[.agg #[.int .i64 (N : Int), .slice A n c]] w fun e w' => ∃ gl gh AO cO, e = .returned (.agg #[.slice (some ⟨gl, 0, none⟩) N N, .slice (some ⟨gh, 0, none⟩) N N, .slice AO (forestV bs N).order.length cO]) ∧ Blk w' gl 3 (intA (forestV bs N).low) ∧ Blk w' gh 3 (intA (forestV bs N).hangs) ∧ IntsIn w'.heap.size w' AO ((forestV bs N).order.map (fun (k : Nat) => (k : Int))) ∧ (w.heap.size ≤ gl ∧ w.heap.size ≤ gh ∧ gl ≠ gh) ∧ Below w.heap.size w w' := by
  have hN1 := hok.n.1
  have hN5 := hok.n.2
  have HOk := Lib.hid hok
  have HX := Lib.hid (fun W (hW : Below w.heap.size w W) => hb.below (hW.mono hB))
  have HN := Lib.hid hn
  have hm := hok.m
  clear hb hok hn
  go_enter Try.func51, Try.ntmps51
  go_wp2
  have HB0 := Lib.hid (show Below w.heap.size w ((w.alloc (.cells #[.int .i64 (N : Int), .slice A n c] 49)).alloc (.cells #[.slice none 0 0, .slice none 0 0, .slice none 0 0] 103)) from pa (pa pr))
  have R0 := Lib.hid (show Blk ((w.alloc (.cells #[.int .i64 (N : Int), .slice A n c] 49)).alloc (.cells #[.slice none 0 0, .slice none 0 0, .slice none 0 0] 103)) w.heap.size 49 #[.int .i64 (N : Int), .slice A n c] from (Blk.newAt rfl).alloc)
  have Z0 := Lib.hid (show Blk ((w.alloc (.cells #[.int .i64 (N : Int), .slice A n c] 49)).alloc (.cells #[.slice none 0 0, .slice none 0 0, .slice none 0 0] 103)) (w.heap.size + 1) 103 #[.slice none 0 0, .slice none 0 0, .slice none 0 0] from Blk.newAt (by simp))
  generalize (w.alloc (.cells #[.int .i64 (N : Int), .slice A n c] 49)).alloc (.cells #[.slice none 0 0, .slice none 0 0, .slice none 0 0] 103) = w1_ at *
  go_cut [3] (fun pv wx => ∃ p gl gh : Nat, pv = .pointer (some ⟨p, 0, none⟩) ∧ ForOk w1_.heap.size N p gl gh wx ∧ Below w1_.heap.size w1_ wx)
  case first =>
    have HSS := Lib.hid (show ∀ W, Below w1_.heap.size w1_ W → W.cell? ⟨w.heap.size, 0, none⟩ = some (.int .i64 (N : Int)) ∧ True from fun W hW => ⟨(R0.out.past hW).cellAt 0 rfl, trivial⟩)
    refine wp_region_G 10 follows_mixed (fun W => W.cell? ⟨w.heap.size, 0, none⟩ = some (.int .i64 (N : Int)) ∧ True) (HSS.out _ (pd pr)) ?_
    intro hSd inv
    have HSd := Lib.hid hSd
    clear hSd
    refine wpAnyG_take (i := 1) (v := ?_) rfl (by kernel_rfl) (by kernel_rfl) (by kernel_rfl) (by kernel_rfl) (by kernel_rfl) (by decide) (by decide) inv (fun _ _ _ h => h) (Or.inl ⟨by rfl, ?_⟩) HSd.out ?_; rotate_left; (focus (intro W y1; obtain ⟨y1, y2⟩ := y1; go_simp; (first | done | with_reducible rfl))); clear inv; intro inv; simp only [List.getElem_toArray, List.getElem_cons_zero, List.getElem_cons_succ, Act.put, List.setIfInBounds_toArray, List.set_cons_zero, List.set_cons_succ]
    refine wpAnyG_take (i := 2) (v := ?_) rfl (by kernel_rfl) (by kernel_rfl) (by kernel_rfl) (by kernel_rfl) (by kernel_rfl) (by decide) (by decide) inv (fun _ _ _ h => h) (Or.inl ⟨by rfl, ?_⟩) HSd.out ?_; rotate_left; (focus (intro W y1; obtain ⟨y1, y2⟩ := y1; go_simp; (first | done | with_reducible rfl))); clear inv; intro inv; simp only [List.getElem_toArray, List.getElem_cons_zero, List.getElem_cons_succ, Act.put, List.setIfInBounds_toArray, List.set_cons_zero, List.set_cons_succ]
    refine wpAnyG_take (i := 5) (v := ?_) rfl (by kernel_rfl) (by kernel_rfl) (by kernel_rfl) (by kernel_rfl) (by kernel_rfl) (by decide) (by decide) inv (fun _ _ _ h => h) (Or.inl ⟨by rfl, ?_⟩) HSd.out ?_; rotate_left; (focus (intro W y1; obtain ⟨y1, y2⟩ := y1; go_simp; (first | done | with_reducible rfl))); clear inv; intro inv; simp only [List.getElem_toArray, List.getElem_cons_zero, List.getElem_cons_succ, Act.put, List.setIfInBounds_toArray, List.set_cons_zero, List.set_cons_succ]
    refine wpAnyG_take (i := 6) (v := ?_) rfl (by kernel_rfl) (by kernel_rfl) (by kernel_rfl) (by kernel_rfl) (by kernel_rfl) (by decide) (by decide) inv (fun _ _ _ h => h) (Or.inl ⟨by rfl, ?_⟩) HSd.out ?_; rotate_left; (focus (intro W y1; obtain ⟨y1, y2⟩ := y1; go_simp; (first | done | with_reducible rfl))); clear inv; intro inv; simp only [List.getElem_toArray, List.getElem_cons_zero, List.getElem_cons_succ, Act.put, List.setIfInBounds_toArray, List.set_cons_zero, List.set_cons_succ]
    have HBvd := Lib.hid (show Below w1_.heap.size w1_ w1_.drew from pd pr)
    have HInv := Lib.hid inv
    clear inv HSd
    generalize w1_.drew = vd at *
    refine wpAnyG_threeE (i := 0) (k := 4) (l := 9) (by kernel_rfl) rfl rfl rfl rfl rfl rfl (fun K hK => ?_) (fun K hK => ?_) (fun K hK => ?_)
    · skip
      go_simp
      have HBx := Lib.hid (show Below vd.heap.size vd (vd.alloc (.cells #[.int .i64 (-1)] 3)) from pa pr)
      have HN_v1 := Lib.hid (show Blk (vd.alloc (.cells #[.int .i64 (-1)] 3)) vd.heap.size 3 #[.int .i64 (-1)] from Blk.newAt rfl)
      have hszv1 : vd.heap.size ≤ vd.heap.size := Nat.le_refl _
      obtain ⟨aa, haa⟩ : ∃ q, q = vd.heap.size := ⟨_, rfl⟩
      rw [← haa] at HN_v1
      have hgeaa : vd.heap.size ≤ aa := by rw [haa]; exact Nat.le_refl _
      have ge_aa : w1_.heap.size ≤ aa := Nat.le_trans HBvd.out.size hgeaa
      try rw [← haa]
      clear haa hszv1 hgeaa
      obtain ⟨v1, hv1⟩ : ∃ q : World, q = (vd.alloc (.cells #[.int .i64 (-1)] 3)) := ⟨_, rfl⟩
      rw [← hv1] at HBx HN_v1 ⊢
      clear hv1
      have HBv1 := Lib.hid (pt HBvd.out HBx.out)
      have HA_v1 := Lib.hid (show IntsIn v1.heap.size v1 (some ⟨aa, 0, none⟩) [-1] from intA_ints (l := [-1]) HN_v1.out)
      have HAb_v1 := HN_v1
      clear HBx
      refine hK.out _ _ (fun _ => HSS.out _ HBv1.out) ?_
      clear hK K
      replace HInv := Lib.hid (inv_memE (i := 0) HInv.out (by kernel_rfl) (by decide))
      refine wpAnyG_threeE (i := 3) (k := 4) (l := 9) (by kernel_rfl) rfl rfl rfl rfl rfl rfl (fun K hK => ?_) (fun K hK => ?_) (fun K hK => ?_)
      · skip
        go_simp
        refine (repeat_any _ (-1) _ 1 N v1 HA_v1.out (Nat.le_refl _) hN1 (by omega)).mono ?_
        rintro e v2 ⟨gl, rfl, hgl, hgegl, hb⟩
        have HBx := Lib.hid hb
        have GL_v2 := Lib.hid (show Blk v2 gl 3 (intA (List.replicate N (-1))) from hgl)
        have lt_aa_gl : aa < gl := Nat.lt_of_lt_of_le HAb_v1.out.lt hgegl
        have ge_gl : w1_.heap.size ≤ gl := Nat.le_trans HBv1.out.size hgegl
        have HBv2 := Lib.hid (pt HBv1.out hb)
        have HA_v2 := Lib.hid ((HA_v1.out.below HBx.out).more (HBx.out : Below v1.heap.size v1 v2).size)
        have HAb_v2 := Lib.hid (HAb_v1.out.past HBx.out)
        clear hgl hgegl hb HBx
        refine hK.out _ _ (fun _ => HSS.out _ HBv2.out) ?_
        clear hK K
        replace HInv := Lib.hid (inv_memE (i := 3) HInv.out (by kernel_rfl) (by decide))
        refine wpAnyG_twoE (i := 4) (k := 9) (by kernel_rfl) rfl rfl rfl rfl (fun K hK => ?_) (fun K hK => ?_)
        · skip
          go_simp
          have HBx := Lib.hid (show Below v2.heap.size v2 (v2.alloc (.cells #[.int .i64 (-1)] 3)) from pa pr)
          have HN_v3 := Lib.hid (show Blk (v2.alloc (.cells #[.int .i64 (-1)] 3)) v2.heap.size 3 #[.int .i64 (-1)] from Blk.newAt rfl)
          have hszv3 : v2.heap.size ≤ v2.heap.size := Nat.le_refl _
          obtain ⟨ad, had⟩ : ∃ q, q = v2.heap.size := ⟨_, rfl⟩
          rw [← had] at HN_v3
          have hgead : v2.heap.size ≤ ad := by rw [had]; exact Nat.le_refl _
          have lt_aa_ad : aa < ad := Nat.lt_of_lt_of_le HAb_v2.out.lt hgead
          have lt_gl_ad : gl < ad := Nat.lt_of_lt_of_le GL_v2.out.lt hgead
          have ge_ad : w1_.heap.size ≤ ad := Nat.le_trans HBv2.out.size hgead
          try rw [← had]
          clear had hszv3 hgead
          obtain ⟨v3, hv3⟩ : ∃ q : World, q = (v2.alloc (.cells #[.int .i64 (-1)] 3)) := ⟨_, rfl⟩
          rw [← hv3] at HBx HN_v3 ⊢
          clear hv3
          have HBv3 := Lib.hid (pt HBv2.out HBx.out)
          have HA_v3 := Lib.hid ((HA_v2.out.below HBx.out).more (HBx.out : Below v2.heap.size v2 v3).size)
          have HAb_v3 := Lib.hid (HAb_v2.out.past HBx.out)
          have GL_v3 := Lib.hid (GL_v2.out.past HBx.out)
          have HD_v3 := Lib.hid (show IntsIn v3.heap.size v3 (some ⟨ad, 0, none⟩) [-1] from intA_ints (l := [-1]) HN_v3.out)
          have HDb_v3 := HN_v3
          clear HBx
          refine hK.out _ _ (fun _ => HSS.out _ HBv3.out) ?_
          clear hK K
          replace HInv := Lib.hid (inv_memE (i := 4) HInv.out (by kernel_rfl) (by decide))
          refine wpAnyG_twoE (i := 7) (k := 9) (by kernel_rfl) rfl rfl rfl rfl (fun K hK => ?_) (fun K hK => ?_)
          · skip
            go_simp
            refine (repeat_any _ (-1) _ 1 N v3 HD_v3.out (Nat.le_refl _) hN1 (by omega)).mono ?_
            rintro e v4 ⟨gh, rfl, hgh, hgegh, hb⟩
            have HBx := Lib.hid hb
            have GH_v4 := Lib.hid (show Blk v4 gh 3 (intA (List.replicate N (-1))) from hgh)
            have lt_aa_gh : aa < gh := Nat.lt_of_lt_of_le HAb_v3.out.lt hgegh
            have lt_gl_gh : gl < gh := Nat.lt_of_lt_of_le GL_v3.out.lt hgegh
            have lt_ad_gh : ad < gh := Nat.lt_of_lt_of_le HDb_v3.out.lt hgegh
            have ge_gh : w1_.heap.size ≤ gh := Nat.le_trans HBv3.out.size hgegh
            have HBv4 := Lib.hid (pt HBv3.out hb)
            have HA_v4 := Lib.hid ((HA_v3.out.below HBx.out).more (HBx.out : Below v3.heap.size v3 v4).size)
            have HAb_v4 := Lib.hid (HAb_v3.out.past HBx.out)
            have GL_v4 := Lib.hid (GL_v3.out.past HBx.out)
            have HD_v4 := Lib.hid ((HD_v3.out.below HBx.out).more (HBx.out : Below v3.heap.size v3 v4).size)
            have HDb_v4 := Lib.hid (HDb_v3.out.past HBx.out)
            clear hgh hgegh hb HBx
            refine hK.out _ _ (fun _ => HSS.out _ HBv4.out) ?_
            clear hK K
            replace HInv := Lib.hid (inv_memE (i := 7) HInv.out (by kernel_rfl) (by decide))
            have inv := HInv.out
            clear HInv
            have HSd := Lib.hid (HSS.out _ HBv4.out)
            refine wpAnyG_take (i := 8) (v := ?_) rfl (by kernel_rfl) (by kernel_rfl) (by kernel_rfl) (by kernel_rfl) (by kernel_rfl) (by decide) (by decide) inv (fun _ _ _ h => h) (Or.inl ⟨by rfl, ?_⟩) HSd.out ?_; rotate_left; (focus (intro W y1; obtain ⟨y1, y2⟩ := y1; go_simp; (first | done | with_reducible rfl))); clear inv; intro inv; simp only [List.getElem_toArray, List.getElem_cons_zero, List.getElem_cons_succ, Act.put, List.setIfInBounds_toArray, List.set_cons_zero, List.set_cons_succ]
            have HInv := Lib.hid inv
            clear inv HSd
            refine wpAnyG_one (i := 9) (by kernel_rfl) rfl rfl fun K hK => ?_
            go_simp
            have HBx := Lib.hid (show Below v4.heap.size v4 (v4.alloc (.cells #[.slice none 0 0, .slice none 0 0, .slice none 0 0] 103)) from pa pr)
            have HN_v5 := Lib.hid (show Blk (v4.alloc (.cells #[.slice none 0 0, .slice none 0 0, .slice none 0 0] 103)) v4.heap.size 103 #[.slice none 0 0, .slice none 0 0, .slice none 0 0] from Blk.newAt rfl)
            have hszv5 : v4.heap.size ≤ v4.heap.size := Nat.le_refl _
            obtain ⟨pp_, hpp_⟩ : ∃ q, q = v4.heap.size := ⟨_, rfl⟩
            rw [← hpp_] at HN_v5
            have hgepp_ : v4.heap.size ≤ pp_ := by rw [hpp_]; exact Nat.le_refl _
            have lt_aa_pp_ : aa < pp_ := Nat.lt_of_lt_of_le HAb_v4.out.lt hgepp_
            have lt_gl_pp_ : gl < pp_ := Nat.lt_of_lt_of_le GL_v4.out.lt hgepp_
            have lt_ad_pp_ : ad < pp_ := Nat.lt_of_lt_of_le HDb_v4.out.lt hgepp_
            have lt_gh_pp_ : gh < pp_ := Nat.lt_of_lt_of_le GH_v4.out.lt hgepp_
            have ge_pp_ : w1_.heap.size ≤ pp_ := Nat.le_trans HBv4.out.size hgepp_
            try rw [← hpp_]
            clear hpp_ hszv5 hgepp_
            obtain ⟨v5, hv5⟩ : ∃ q : World, q = (v4.alloc (.cells #[.slice none 0 0, .slice none 0 0, .slice none 0 0] 103)) := ⟨_, rfl⟩
            rw [← hv5] at HBx HN_v5 ⊢
            clear hv5
            have HBv5 := Lib.hid (pt HBv4.out HBx.out)
            have HA_v5 := Lib.hid ((HA_v4.out.below HBx.out).more (HBx.out : Below v4.heap.size v4 v5).size)
            have HAb_v5 := Lib.hid (HAb_v4.out.past HBx.out)
            have GL_v5 := Lib.hid (GL_v4.out.past HBx.out)
            have HD_v5 := Lib.hid ((HD_v4.out.below HBx.out).more (HBx.out : Below v4.heap.size v4 v5).size)
            have HDb_v5 := Lib.hid (HDb_v4.out.past HBx.out)
            have GH_v5 := Lib.hid (GH_v4.out.past HBx.out)
            have HP_v5 := HN_v5
            clear HBx
            refine hK.out _ _ (fun _ => HSS.out _ HBv5.out) ?_
            clear hK K
            replace HInv := Lib.hid (inv_oneE (i := 9) HInv.out (by kernel_rfl) (by decide))
            refine wpAnyG_one (i := 10) (by kernel_rfl) rfl rfl fun K hK => ?_
            refine store_op HP_v5.out (o := 0) (vs := #[.slice (some ⟨gl, 0, none⟩) N N, .slice (some ⟨gh, 0, none⟩) N N, .slice none 0 0]) (cs' := #[.slice (some ⟨gl, 0, none⟩) N N, .slice (some ⟨gh, 0, none⟩) N N, .slice none 0 0]) rfl rfl rfl (Nat.le_refl 3) forest_size (by simp [Value.oneCell']) fun v9 hv9 hp9 => ?_
            refine hK.out _ _ (fun h => absurd h (by decide)) ?_
            clear hK K
            refine wpAnyG_done (by kernel_rfl) ?_
            have HR := Lib.hid (show ForOk w1_.heap.size N pp_ gl gh v9 from ⟨hv9, GL_v5.out.put hp9 (by omega), GH_v5.out.put hp9 (by omega), ⟨ge_pp_, ge_gl, ge_gh⟩, by omega, by omega, by omega⟩)
            have HBe := Lib.hid (show Below w1_.heap.size w1_ v9 from HBv5.out.trans (hp9.below _ ge_pp_))
            go_wp2
            go_meet
            case rel => exact ⟨_, _, _, rfl, HR.out, HBe.out⟩
          · skip
            go_simp
            have HBx := Lib.hid (show Below v3.heap.size v3 (v3.alloc (.cells #[.slice none 0 0, .slice none 0 0, .slice none 0 0] 103)) from pa pr)
            have HN_v6 := Lib.hid (show Blk (v3.alloc (.cells #[.slice none 0 0, .slice none 0 0, .slice none 0 0] 103)) v3.heap.size 103 #[.slice none 0 0, .slice none 0 0, .slice none 0 0] from Blk.newAt rfl)
            have hszv6 : v3.heap.size ≤ v3.heap.size := Nat.le_refl _
            obtain ⟨pp_, hpp_⟩ : ∃ q, q = v3.heap.size := ⟨_, rfl⟩
            rw [← hpp_] at HN_v6
            have hgepp_ : v3.heap.size ≤ pp_ := by rw [hpp_]; exact Nat.le_refl _
            have lt_aa_pp_ : aa < pp_ := Nat.lt_of_lt_of_le HAb_v3.out.lt hgepp_
            have lt_gl_pp_ : gl < pp_ := Nat.lt_of_lt_of_le GL_v3.out.lt hgepp_
            have lt_ad_pp_ : ad < pp_ := Nat.lt_of_lt_of_le HDb_v3.out.lt hgepp_
            have ge_pp_ : w1_.heap.size ≤ pp_ := Nat.le_trans HBv3.out.size hgepp_
            try rw [← hpp_]
            clear hpp_ hszv6 hgepp_
            obtain ⟨v6, hv6⟩ : ∃ q : World, q = (v3.alloc (.cells #[.slice none 0 0, .slice none 0 0, .slice none 0 0] 103)) := ⟨_, rfl⟩
            rw [← hv6] at HBx HN_v6 ⊢
            clear hv6
            have HBv6 := Lib.hid (pt HBv3.out HBx.out)
            have HA_v6 := Lib.hid ((HA_v3.out.below HBx.out).more (HBx.out : Below v3.heap.size v3 v6).size)
            have HAb_v6 := Lib.hid (HAb_v3.out.past HBx.out)
            have GL_v6 := Lib.hid (GL_v3.out.past HBx.out)
            have HD_v6 := Lib.hid ((HD_v3.out.below HBx.out).more (HBx.out : Below v3.heap.size v3 v6).size)
            have HDb_v6 := Lib.hid (HDb_v3.out.past HBx.out)
            have HP_v6 := HN_v6
            clear HBx
            refine hK.out _ _ (fun _ => HSS.out _ HBv6.out) ?_
            clear hK K
            replace HInv := Lib.hid (inv_memE (i := 9) HInv.out (by kernel_rfl) (by decide))
            refine wpAnyG_one (i := 7) (by kernel_rfl) rfl rfl fun K hK => ?_
            go_simp
            refine (repeat_any _ (-1) _ 1 N v6 HD_v6.out (Nat.le_refl _) hN1 (by omega)).mono ?_
            rintro e v7 ⟨gh, rfl, hgh, hgegh, hb⟩
            have HBx := Lib.hid hb
            have GH_v7 := Lib.hid (show Blk v7 gh 3 (intA (List.replicate N (-1))) from hgh)
            have lt_aa_gh : aa < gh := Nat.lt_of_lt_of_le HAb_v6.out.lt hgegh
            have lt_gl_gh : gl < gh := Nat.lt_of_lt_of_le GL_v6.out.lt hgegh
            have lt_ad_gh : ad < gh := Nat.lt_of_lt_of_le HDb_v6.out.lt hgegh
            have lt_pp__gh : pp_ < gh := Nat.lt_of_lt_of_le HP_v6.out.lt hgegh
            have ge_gh : w1_.heap.size ≤ gh := Nat.le_trans HBv6.out.size hgegh
            have HBv7 := Lib.hid (pt HBv6.out hb)
            have HA_v7 := Lib.hid ((HA_v6.out.below HBx.out).more (HBx.out : Below v6.heap.size v6 v7).size)
            have HAb_v7 := Lib.hid (HAb_v6.out.past HBx.out)
            have GL_v7 := Lib.hid (GL_v6.out.past HBx.out)
            have HD_v7 := Lib.hid ((HD_v6.out.below HBx.out).more (HBx.out : Below v6.heap.size v6 v7).size)
            have HDb_v7 := Lib.hid (HDb_v6.out.past HBx.out)
            have HP_v7 := Lib.hid (HP_v6.out.past HBx.out)
            clear hgh hgegh hb HBx
            refine hK.out _ _ (fun _ => HSS.out _ HBv7.out) ?_
            clear hK K
            replace HInv := Lib.hid (inv_oneE (i := 7) HInv.out (by kernel_rfl) (by decide))
            have inv := HInv.out
            clear HInv
            have HSd := Lib.hid (HSS.out _ HBv7.out)
            refine wpAnyG_take (i := 8) (v := ?_) rfl (by kernel_rfl) (by kernel_rfl) (by kernel_rfl) (by kernel_rfl) (by kernel_rfl) (by decide) (by decide) inv (fun _ _ _ h => h) (Or.inl ⟨by rfl, ?_⟩) HSd.out ?_; rotate_left; (focus (intro W y1; obtain ⟨y1, y2⟩ := y1; go_simp; (first | done | with_reducible rfl))); clear inv; intro inv; simp only [List.getElem_toArray, List.getElem_cons_zero, List.getElem_cons_succ, Act.put, List.setIfInBounds_toArray, List.set_cons_zero, List.set_cons_succ]
            have HInv := Lib.hid inv
            clear inv HSd
            refine wpAnyG_one (i := 10) (by kernel_rfl) rfl rfl fun K hK => ?_
            refine store_op HP_v7.out (o := 0) (vs := #[.slice (some ⟨gl, 0, none⟩) N N, .slice (some ⟨gh, 0, none⟩) N N, .slice none 0 0]) (cs' := #[.slice (some ⟨gl, 0, none⟩) N N, .slice (some ⟨gh, 0, none⟩) N N, .slice none 0 0]) rfl rfl rfl (Nat.le_refl 3) forest_size (by simp [Value.oneCell']) fun v9 hv9 hp9 => ?_
            refine hK.out _ _ (fun h => absurd h (by decide)) ?_
            clear hK K
            refine wpAnyG_done (by kernel_rfl) ?_
            have HR := Lib.hid (show ForOk w1_.heap.size N pp_ gl gh v9 from ⟨hv9, GL_v7.out.put hp9 (by omega), GH_v7.out.put hp9 (by omega), ⟨ge_pp_, ge_gl, ge_gh⟩, by omega, by omega, by omega⟩)
            have HBe := Lib.hid (show Below w1_.heap.size w1_ v9 from HBv7.out.trans (hp9.below _ ge_pp_))
            go_wp2
            go_meet
            case rel => exact ⟨_, _, _, rfl, HR.out, HBe.out⟩
        · skip
          go_simp
          have HBx := Lib.hid (show Below v2.heap.size v2 (v2.alloc (.cells #[.slice none 0 0, .slice none 0 0, .slice none 0 0] 103)) from pa pr)
          have HN_v8 := Lib.hid (show Blk (v2.alloc (.cells #[.slice none 0 0, .slice none 0 0, .slice none 0 0] 103)) v2.heap.size 103 #[.slice none 0 0, .slice none 0 0, .slice none 0 0] from Blk.newAt rfl)
          have hszv8 : v2.heap.size ≤ v2.heap.size := Nat.le_refl _
          obtain ⟨pp_, hpp_⟩ : ∃ q, q = v2.heap.size := ⟨_, rfl⟩
          rw [← hpp_] at HN_v8
          have hgepp_ : v2.heap.size ≤ pp_ := by rw [hpp_]; exact Nat.le_refl _
          have lt_aa_pp_ : aa < pp_ := Nat.lt_of_lt_of_le HAb_v2.out.lt hgepp_
          have lt_gl_pp_ : gl < pp_ := Nat.lt_of_lt_of_le GL_v2.out.lt hgepp_
          have ge_pp_ : w1_.heap.size ≤ pp_ := Nat.le_trans HBv2.out.size hgepp_
          try rw [← hpp_]
          clear hpp_ hszv8 hgepp_
          obtain ⟨v8, hv8⟩ : ∃ q : World, q = (v2.alloc (.cells #[.slice none 0 0, .slice none 0 0, .slice none 0 0] 103)) := ⟨_, rfl⟩
          rw [← hv8] at HBx HN_v8 ⊢
          clear hv8
          have HBv8 := Lib.hid (pt HBv2.out HBx.out)
          have HA_v8 := Lib.hid ((HA_v2.out.below HBx.out).more (HBx.out : Below v2.heap.size v2 v8).size)
          have HAb_v8 := Lib.hid (HAb_v2.out.past HBx.out)
          have GL_v8 := Lib.hid (GL_v2.out.past HBx.out)
          have HP_v8 := HN_v8
          clear HBx
          refine hK.out _ _ (fun _ => HSS.out _ HBv8.out) ?_
          clear hK K
          replace HInv := Lib.hid (inv_memE (i := 9) HInv.out (by kernel_rfl) (by decide))
          refine wpAnyG_one (i := 4) (by kernel_rfl) rfl rfl fun K hK => ?_
          go_simp
          have HBx := Lib.hid (show Below v8.heap.size v8 (v8.alloc (.cells #[.int .i64 (-1)] 3)) from pa pr)
          have HN_v9 := Lib.hid (show Blk (v8.alloc (.cells #[.int .i64 (-1)] 3)) v8.heap.size 3 #[.int .i64 (-1)] from Blk.newAt rfl)
          have hszv9 : v8.heap.size ≤ v8.heap.size := Nat.le_refl _
          obtain ⟨ad, had⟩ : ∃ q, q = v8.heap.size := ⟨_, rfl⟩
          rw [← had] at HN_v9
          have hgead : v8.heap.size ≤ ad := by rw [had]; exact Nat.le_refl _
          have lt_aa_ad : aa < ad := Nat.lt_of_lt_of_le HAb_v8.out.lt hgead
          have lt_gl_ad : gl < ad := Nat.lt_of_lt_of_le GL_v8.out.lt hgead
          have lt_pp__ad : pp_ < ad := Nat.lt_of_lt_of_le HP_v8.out.lt hgead
          have ge_ad : w1_.heap.size ≤ ad := Nat.le_trans HBv8.out.size hgead
          try rw [← had]
          clear had hszv9 hgead
          obtain ⟨v9, hv9⟩ : ∃ q : World, q = (v8.alloc (.cells #[.int .i64 (-1)] 3)) := ⟨_, rfl⟩
          rw [← hv9] at HBx HN_v9 ⊢
          clear hv9
          have HBv9 := Lib.hid (pt HBv8.out HBx.out)
          have HA_v9 := Lib.hid ((HA_v8.out.below HBx.out).more (HBx.out : Below v8.heap.size v8 v9).size)
          have HAb_v9 := Lib.hid (HAb_v8.out.past HBx.out)
          have GL_v9 := Lib.hid (GL_v8.out.past HBx.out)
          have HP_v9 := Lib.hid (HP_v8.out.past HBx.out)
          have HD_v9 := Lib.hid (show IntsIn v9.heap.size v9 (some ⟨ad, 0, none⟩) [-1] from intA_ints (l := [-1]) HN_v9.out)
          have HDb_v9 := HN_v9
          clear HBx
          refine hK.out _ _ (fun _ => HSS.out _ HBv9.out) ?_
          clear hK K
          replace HInv := Lib.hid (inv_oneE (i := 4) HInv.out (by kernel_rfl) (by decide))
          refine wpAnyG_one (i := 7) (by kernel_rfl) rfl rfl fun K hK => ?_
          go_simp
          refine (repeat_any _ (-1) _ 1 N v9 HD_v9.out (Nat.le_refl _) hN1 (by omega)).mono ?_
          rintro e v10 ⟨gh, rfl, hgh, hgegh, hb⟩
          have HBx := Lib.hid hb
          have GH_v10 := Lib.hid (show Blk v10 gh 3 (intA (List.replicate N (-1))) from hgh)
          have lt_aa_gh : aa < gh := Nat.lt_of_lt_of_le HAb_v9.out.lt hgegh
          have lt_gl_gh : gl < gh := Nat.lt_of_lt_of_le GL_v9.out.lt hgegh
          have lt_pp__gh : pp_ < gh := Nat.lt_of_lt_of_le HP_v9.out.lt hgegh
          have lt_ad_gh : ad < gh := Nat.lt_of_lt_of_le HDb_v9.out.lt hgegh
          have ge_gh : w1_.heap.size ≤ gh := Nat.le_trans HBv9.out.size hgegh
          have HBv10 := Lib.hid (pt HBv9.out hb)
          have HA_v10 := Lib.hid ((HA_v9.out.below HBx.out).more (HBx.out : Below v9.heap.size v9 v10).size)
          have HAb_v10 := Lib.hid (HAb_v9.out.past HBx.out)
          have GL_v10 := Lib.hid (GL_v9.out.past HBx.out)
          have HP_v10 := Lib.hid (HP_v9.out.past HBx.out)
          have HD_v10 := Lib.hid ((HD_v9.out.below HBx.out).more (HBx.out : Below v9.heap.size v9 v10).size)
          have HDb_v10 := Lib.hid (HDb_v9.out.past HBx.out)
          clear hgh hgegh hb HBx
          refine hK.out _ _ (fun _ => HSS.out _ HBv10.out) ?_
          clear hK K
          replace HInv := Lib.hid (inv_oneE (i := 7) HInv.out (by kernel_rfl) (by decide))
          have inv := HInv.out
          clear HInv
          have HSd := Lib.hid (HSS.out _ HBv10.out)
          refine wpAnyG_take (i := 8) (v := ?_) rfl (by kernel_rfl) (by kernel_rfl) (by kernel_rfl) (by kernel_rfl) (by kernel_rfl) (by decide) (by decide) inv (fun _ _ _ h => h) (Or.inl ⟨by rfl, ?_⟩) HSd.out ?_; rotate_left; (focus (intro W y1; obtain ⟨y1, y2⟩ := y1; go_simp; (first | done | with_reducible rfl))); clear inv; intro inv; simp only [List.getElem_toArray, List.getElem_cons_zero, List.getElem_cons_succ, Act.put, List.setIfInBounds_toArray, List.set_cons_zero, List.set_cons_succ]
          have HInv := Lib.hid inv
          clear inv HSd
          refine wpAnyG_one (i := 10) (by kernel_rfl) rfl rfl fun K hK => ?_
          refine store_op HP_v10.out (o := 0) (vs := #[.slice (some ⟨gl, 0, none⟩) N N, .slice (some ⟨gh, 0, none⟩) N N, .slice none 0 0]) (cs' := #[.slice (some ⟨gl, 0, none⟩) N N, .slice (some ⟨gh, 0, none⟩) N N, .slice none 0 0]) rfl rfl rfl (Nat.le_refl 3) forest_size (by simp [Value.oneCell']) fun v9 hv9 hp9 => ?_
          refine hK.out _ _ (fun h => absurd h (by decide)) ?_
          clear hK K
          refine wpAnyG_done (by kernel_rfl) ?_
          have HR := Lib.hid (show ForOk w1_.heap.size N pp_ gl gh v9 from ⟨hv9, GL_v10.out.put hp9 (by omega), GH_v10.out.put hp9 (by omega), ⟨ge_pp_, ge_gl, ge_gh⟩, by omega, by omega, by omega⟩)
          have HBe := Lib.hid (show Below w1_.heap.size w1_ v9 from HBv10.out.trans (hp9.below _ ge_pp_))
          go_wp2
          go_meet
          case rel => exact ⟨_, _, _, rfl, HR.out, HBe.out⟩
      · skip
        go_simp
        have HBx := Lib.hid (show Below v1.heap.size v1 (v1.alloc (.cells #[.int .i64 (-1)] 3)) from pa pr)
        have HN_v11 := Lib.hid (show Blk (v1.alloc (.cells #[.int .i64 (-1)] 3)) v1.heap.size 3 #[.int .i64 (-1)] from Blk.newAt rfl)
        have hszv11 : v1.heap.size ≤ v1.heap.size := Nat.le_refl _
        obtain ⟨ad, had⟩ : ∃ q, q = v1.heap.size := ⟨_, rfl⟩
        rw [← had] at HN_v11
        have hgead : v1.heap.size ≤ ad := by rw [had]; exact Nat.le_refl _
        have lt_aa_ad : aa < ad := Nat.lt_of_lt_of_le HAb_v1.out.lt hgead
        have ge_ad : w1_.heap.size ≤ ad := Nat.le_trans HBv1.out.size hgead
        try rw [← had]
        clear had hszv11 hgead
        obtain ⟨v11, hv11⟩ : ∃ q : World, q = (v1.alloc (.cells #[.int .i64 (-1)] 3)) := ⟨_, rfl⟩
        rw [← hv11] at HBx HN_v11 ⊢
        clear hv11
        have HBv11 := Lib.hid (pt HBv1.out HBx.out)
        have HA_v11 := Lib.hid ((HA_v1.out.below HBx.out).more (HBx.out : Below v1.heap.size v1 v11).size)
        have HAb_v11 := Lib.hid (HAb_v1.out.past HBx.out)
        have HD_v11 := Lib.hid (show IntsIn v11.heap.size v11 (some ⟨ad, 0, none⟩) [-1] from intA_ints (l := [-1]) HN_v11.out)
        have HDb_v11 := HN_v11
        clear HBx
        refine hK.out _ _ (fun _ => HSS.out _ HBv11.out) ?_
        clear hK K
        replace HInv := Lib.hid (inv_memE (i := 4) HInv.out (by kernel_rfl) (by decide))
        refine wpAnyG_twoE (i := 3) (k := 9) (by kernel_rfl) rfl rfl rfl rfl (fun K hK => ?_) (fun K hK => ?_)
        · skip
          go_simp
          refine (repeat_any _ (-1) _ 1 N v11 HA_v11.out (Nat.le_refl _) hN1 (by omega)).mono ?_
          rintro e v12 ⟨gl, rfl, hgl, hgegl, hb⟩
          have HBx := Lib.hid hb
          have GL_v12 := Lib.hid (show Blk v12 gl 3 (intA (List.replicate N (-1))) from hgl)
          have lt_aa_gl : aa < gl := Nat.lt_of_lt_of_le HAb_v11.out.lt hgegl
          have lt_ad_gl : ad < gl := Nat.lt_of_lt_of_le HDb_v11.out.lt hgegl
          have ge_gl : w1_.heap.size ≤ gl := Nat.le_trans HBv11.out.size hgegl
          have HBv12 := Lib.hid (pt HBv11.out hb)
          have HA_v12 := Lib.hid ((HA_v11.out.below HBx.out).more (HBx.out : Below v11.heap.size v11 v12).size)
          have HAb_v12 := Lib.hid (HAb_v11.out.past HBx.out)
          have HD_v12 := Lib.hid ((HD_v11.out.below HBx.out).more (HBx.out : Below v11.heap.size v11 v12).size)
          have HDb_v12 := Lib.hid (HDb_v11.out.past HBx.out)
          clear hgl hgegl hb HBx
          refine hK.out _ _ (fun _ => HSS.out _ HBv12.out) ?_
          clear hK K
          replace HInv := Lib.hid (inv_memE (i := 3) HInv.out (by kernel_rfl) (by decide))
          refine wpAnyG_twoE (i := 7) (k := 9) (by kernel_rfl) rfl rfl rfl rfl (fun K hK => ?_) (fun K hK => ?_)
          · skip
            go_simp
            refine (repeat_any _ (-1) _ 1 N v12 HD_v12.out (Nat.le_refl _) hN1 (by omega)).mono ?_
            rintro e v13 ⟨gh, rfl, hgh, hgegh, hb⟩
            have HBx := Lib.hid hb
            have GH_v13 := Lib.hid (show Blk v13 gh 3 (intA (List.replicate N (-1))) from hgh)
            have lt_aa_gh : aa < gh := Nat.lt_of_lt_of_le HAb_v12.out.lt hgegh
            have lt_ad_gh : ad < gh := Nat.lt_of_lt_of_le HDb_v12.out.lt hgegh
            have lt_gl_gh : gl < gh := Nat.lt_of_lt_of_le GL_v12.out.lt hgegh
            have ge_gh : w1_.heap.size ≤ gh := Nat.le_trans HBv12.out.size hgegh
            have HBv13 := Lib.hid (pt HBv12.out hb)
            have HA_v13 := Lib.hid ((HA_v12.out.below HBx.out).more (HBx.out : Below v12.heap.size v12 v13).size)
            have HAb_v13 := Lib.hid (HAb_v12.out.past HBx.out)
            have HD_v13 := Lib.hid ((HD_v12.out.below HBx.out).more (HBx.out : Below v12.heap.size v12 v13).size)
            have HDb_v13 := Lib.hid (HDb_v12.out.past HBx.out)
            have GL_v13 := Lib.hid (GL_v12.out.past HBx.out)
            clear hgh hgegh hb HBx
            refine hK.out _ _ (fun _ => HSS.out _ HBv13.out) ?_
            clear hK K
            replace HInv := Lib.hid (inv_memE (i := 7) HInv.out (by kernel_rfl) (by decide))
            have inv := HInv.out
            clear HInv
            have HSd := Lib.hid (HSS.out _ HBv13.out)
            refine wpAnyG_take (i := 8) (v := ?_) rfl (by kernel_rfl) (by kernel_rfl) (by kernel_rfl) (by kernel_rfl) (by kernel_rfl) (by decide) (by decide) inv (fun _ _ _ h => h) (Or.inl ⟨by rfl, ?_⟩) HSd.out ?_; rotate_left; (focus (intro W y1; obtain ⟨y1, y2⟩ := y1; go_simp; (first | done | with_reducible rfl))); clear inv; intro inv; simp only [List.getElem_toArray, List.getElem_cons_zero, List.getElem_cons_succ, Act.put, List.setIfInBounds_toArray, List.set_cons_zero, List.set_cons_succ]
            have HInv := Lib.hid inv
            clear inv HSd
            refine wpAnyG_one (i := 9) (by kernel_rfl) rfl rfl fun K hK => ?_
            go_simp
            have HBx := Lib.hid (show Below v13.heap.size v13 (v13.alloc (.cells #[.slice none 0 0, .slice none 0 0, .slice none 0 0] 103)) from pa pr)
            have HN_v14 := Lib.hid (show Blk (v13.alloc (.cells #[.slice none 0 0, .slice none 0 0, .slice none 0 0] 103)) v13.heap.size 103 #[.slice none 0 0, .slice none 0 0, .slice none 0 0] from Blk.newAt rfl)
            have hszv14 : v13.heap.size ≤ v13.heap.size := Nat.le_refl _
            obtain ⟨pp_, hpp_⟩ : ∃ q, q = v13.heap.size := ⟨_, rfl⟩
            rw [← hpp_] at HN_v14
            have hgepp_ : v13.heap.size ≤ pp_ := by rw [hpp_]; exact Nat.le_refl _
            have lt_aa_pp_ : aa < pp_ := Nat.lt_of_lt_of_le HAb_v13.out.lt hgepp_
            have lt_ad_pp_ : ad < pp_ := Nat.lt_of_lt_of_le HDb_v13.out.lt hgepp_
            have lt_gl_pp_ : gl < pp_ := Nat.lt_of_lt_of_le GL_v13.out.lt hgepp_
            have lt_gh_pp_ : gh < pp_ := Nat.lt_of_lt_of_le GH_v13.out.lt hgepp_
            have ge_pp_ : w1_.heap.size ≤ pp_ := Nat.le_trans HBv13.out.size hgepp_
            try rw [← hpp_]
            clear hpp_ hszv14 hgepp_
            obtain ⟨v14, hv14⟩ : ∃ q : World, q = (v13.alloc (.cells #[.slice none 0 0, .slice none 0 0, .slice none 0 0] 103)) := ⟨_, rfl⟩
            rw [← hv14] at HBx HN_v14 ⊢
            clear hv14
            have HBv14 := Lib.hid (pt HBv13.out HBx.out)
            have HA_v14 := Lib.hid ((HA_v13.out.below HBx.out).more (HBx.out : Below v13.heap.size v13 v14).size)
            have HAb_v14 := Lib.hid (HAb_v13.out.past HBx.out)
            have HD_v14 := Lib.hid ((HD_v13.out.below HBx.out).more (HBx.out : Below v13.heap.size v13 v14).size)
            have HDb_v14 := Lib.hid (HDb_v13.out.past HBx.out)
            have GL_v14 := Lib.hid (GL_v13.out.past HBx.out)
            have GH_v14 := Lib.hid (GH_v13.out.past HBx.out)
            have HP_v14 := HN_v14
            clear HBx
            refine hK.out _ _ (fun _ => HSS.out _ HBv14.out) ?_
            clear hK K
            replace HInv := Lib.hid (inv_oneE (i := 9) HInv.out (by kernel_rfl) (by decide))
            refine wpAnyG_one (i := 10) (by kernel_rfl) rfl rfl fun K hK => ?_
            refine store_op HP_v14.out (o := 0) (vs := #[.slice (some ⟨gl, 0, none⟩) N N, .slice (some ⟨gh, 0, none⟩) N N, .slice none 0 0]) (cs' := #[.slice (some ⟨gl, 0, none⟩) N N, .slice (some ⟨gh, 0, none⟩) N N, .slice none 0 0]) rfl rfl rfl (Nat.le_refl 3) forest_size (by simp [Value.oneCell']) fun v9 hv9 hp9 => ?_
            refine hK.out _ _ (fun h => absurd h (by decide)) ?_
            clear hK K
            refine wpAnyG_done (by kernel_rfl) ?_
            have HR := Lib.hid (show ForOk w1_.heap.size N pp_ gl gh v9 from ⟨hv9, GL_v14.out.put hp9 (by omega), GH_v14.out.put hp9 (by omega), ⟨ge_pp_, ge_gl, ge_gh⟩, by omega, by omega, by omega⟩)
            have HBe := Lib.hid (show Below w1_.heap.size w1_ v9 from HBv14.out.trans (hp9.below _ ge_pp_))
            go_wp2
            go_meet
            case rel => exact ⟨_, _, _, rfl, HR.out, HBe.out⟩
          · skip
            go_simp
            have HBx := Lib.hid (show Below v12.heap.size v12 (v12.alloc (.cells #[.slice none 0 0, .slice none 0 0, .slice none 0 0] 103)) from pa pr)
            have HN_v15 := Lib.hid (show Blk (v12.alloc (.cells #[.slice none 0 0, .slice none 0 0, .slice none 0 0] 103)) v12.heap.size 103 #[.slice none 0 0, .slice none 0 0, .slice none 0 0] from Blk.newAt rfl)
            have hszv15 : v12.heap.size ≤ v12.heap.size := Nat.le_refl _
            obtain ⟨pp_, hpp_⟩ : ∃ q, q = v12.heap.size := ⟨_, rfl⟩
            rw [← hpp_] at HN_v15
            have hgepp_ : v12.heap.size ≤ pp_ := by rw [hpp_]; exact Nat.le_refl _
            have lt_aa_pp_ : aa < pp_ := Nat.lt_of_lt_of_le HAb_v12.out.lt hgepp_
            have lt_ad_pp_ : ad < pp_ := Nat.lt_of_lt_of_le HDb_v12.out.lt hgepp_
            have lt_gl_pp_ : gl < pp_ := Nat.lt_of_lt_of_le GL_v12.out.lt hgepp_
            have ge_pp_ : w1_.heap.size ≤ pp_ := Nat.le_trans HBv12.out.size hgepp_
            try rw [← hpp_]
            clear hpp_ hszv15 hgepp_
            obtain ⟨v15, hv15⟩ : ∃ q : World, q = (v12.alloc (.cells #[.slice none 0 0, .slice none 0 0, .slice none 0 0] 103)) := ⟨_, rfl⟩
            rw [← hv15] at HBx HN_v15 ⊢
            clear hv15
            have HBv15 := Lib.hid (pt HBv12.out HBx.out)
            have HA_v15 := Lib.hid ((HA_v12.out.below HBx.out).more (HBx.out : Below v12.heap.size v12 v15).size)
            have HAb_v15 := Lib.hid (HAb_v12.out.past HBx.out)
            have HD_v15 := Lib.hid ((HD_v12.out.below HBx.out).more (HBx.out : Below v12.heap.size v12 v15).size)
            have HDb_v15 := Lib.hid (HDb_v12.out.past HBx.out)
            have GL_v15 := Lib.hid (GL_v12.out.past HBx.out)
            have HP_v15 := HN_v15
            clear HBx
            refine hK.out _ _ (fun _ => HSS.out _ HBv15.out) ?_
            clear hK K
            replace HInv := Lib.hid (inv_memE (i := 9) HInv.out (by kernel_rfl) (by decide))
            refine wpAnyG_one (i := 7) (by kernel_rfl) rfl rfl fun K hK => ?_
            go_simp
            refine (repeat_any _ (-1) _ 1 N v15 HD_v15.out (Nat.le_refl _) hN1 (by omega)).mono ?_
            rintro e v16 ⟨gh, rfl, hgh, hgegh, hb⟩
            have HBx := Lib.hid hb
            have GH_v16 := Lib.hid (show Blk v16 gh 3 (intA (List.replicate N (-1))) from hgh)
            have lt_aa_gh : aa < gh := Nat.lt_of_lt_of_le HAb_v15.out.lt hgegh
            have lt_ad_gh : ad < gh := Nat.lt_of_lt_of_le HDb_v15.out.lt hgegh
            have lt_gl_gh : gl < gh := Nat.lt_of_lt_of_le GL_v15.out.lt hgegh
            have lt_pp__gh : pp_ < gh := Nat.lt_of_lt_of_le HP_v15.out.lt hgegh
            have ge_gh : w1_.heap.size ≤ gh := Nat.le_trans HBv15.out.size hgegh
            have HBv16 := Lib.hid (pt HBv15.out hb)
            have HA_v16 := Lib.hid ((HA_v15.out.below HBx.out).more (HBx.out : Below v15.heap.size v15 v16).size)
            have HAb_v16 := Lib.hid (HAb_v15.out.past HBx.out)
            have HD_v16 := Lib.hid ((HD_v15.out.below HBx.out).more (HBx.out : Below v15.heap.size v15 v16).size)
            have HDb_v16 := Lib.hid (HDb_v15.out.past HBx.out)
            have GL_v16 := Lib.hid (GL_v15.out.past HBx.out)
            have HP_v16 := Lib.hid (HP_v15.out.past HBx.out)
            clear hgh hgegh hb HBx
            refine hK.out _ _ (fun _ => HSS.out _ HBv16.out) ?_
            clear hK K
            replace HInv := Lib.hid (inv_oneE (i := 7) HInv.out (by kernel_rfl) (by decide))
            have inv := HInv.out
            clear HInv
            have HSd := Lib.hid (HSS.out _ HBv16.out)
            refine wpAnyG_take (i := 8) (v := ?_) rfl (by kernel_rfl) (by kernel_rfl) (by kernel_rfl) (by kernel_rfl) (by kernel_rfl) (by decide) (by decide) inv (fun _ _ _ h => h) (Or.inl ⟨by rfl, ?_⟩) HSd.out ?_; rotate_left; (focus (intro W y1; obtain ⟨y1, y2⟩ := y1; go_simp; (first | done | with_reducible rfl))); clear inv; intro inv; simp only [List.getElem_toArray, List.getElem_cons_zero, List.getElem_cons_succ, Act.put, List.setIfInBounds_toArray, List.set_cons_zero, List.set_cons_succ]
            have HInv := Lib.hid inv
            clear inv HSd
            refine wpAnyG_one (i := 10) (by kernel_rfl) rfl rfl fun K hK => ?_
            refine store_op HP_v16.out (o := 0) (vs := #[.slice (some ⟨gl, 0, none⟩) N N, .slice (some ⟨gh, 0, none⟩) N N, .slice none 0 0]) (cs' := #[.slice (some ⟨gl, 0, none⟩) N N, .slice (some ⟨gh, 0, none⟩) N N, .slice none 0 0]) rfl rfl rfl (Nat.le_refl 3) forest_size (by simp [Value.oneCell']) fun v9 hv9 hp9 => ?_
            refine hK.out _ _ (fun h => absurd h (by decide)) ?_
            clear hK K
            refine wpAnyG_done (by kernel_rfl) ?_
            have HR := Lib.hid (show ForOk w1_.heap.size N pp_ gl gh v9 from ⟨hv9, GL_v16.out.put hp9 (by omega), GH_v16.out.put hp9 (by omega), ⟨ge_pp_, ge_gl, ge_gh⟩, by omega, by omega, by omega⟩)
            have HBe := Lib.hid (show Below w1_.heap.size w1_ v9 from HBv16.out.trans (hp9.below _ ge_pp_))
            go_wp2
            go_meet
            case rel => exact ⟨_, _, _, rfl, HR.out, HBe.out⟩
        · skip
          go_simp
          have HBx := Lib.hid (show Below v11.heap.size v11 (v11.alloc (.cells #[.slice none 0 0, .slice none 0 0, .slice none 0 0] 103)) from pa pr)
          have HN_v17 := Lib.hid (show Blk (v11.alloc (.cells #[.slice none 0 0, .slice none 0 0, .slice none 0 0] 103)) v11.heap.size 103 #[.slice none 0 0, .slice none 0 0, .slice none 0 0] from Blk.newAt rfl)
          have hszv17 : v11.heap.size ≤ v11.heap.size := Nat.le_refl _
          obtain ⟨pp_, hpp_⟩ : ∃ q, q = v11.heap.size := ⟨_, rfl⟩
          rw [← hpp_] at HN_v17
          have hgepp_ : v11.heap.size ≤ pp_ := by rw [hpp_]; exact Nat.le_refl _
          have lt_aa_pp_ : aa < pp_ := Nat.lt_of_lt_of_le HAb_v11.out.lt hgepp_
          have lt_ad_pp_ : ad < pp_ := Nat.lt_of_lt_of_le HDb_v11.out.lt hgepp_
          have ge_pp_ : w1_.heap.size ≤ pp_ := Nat.le_trans HBv11.out.size hgepp_
          try rw [← hpp_]
          clear hpp_ hszv17 hgepp_
          obtain ⟨v17, hv17⟩ : ∃ q : World, q = (v11.alloc (.cells #[.slice none 0 0, .slice none 0 0, .slice none 0 0] 103)) := ⟨_, rfl⟩
          rw [← hv17] at HBx HN_v17 ⊢
          clear hv17
          have HBv17 := Lib.hid (pt HBv11.out HBx.out)
          have HA_v17 := Lib.hid ((HA_v11.out.below HBx.out).more (HBx.out : Below v11.heap.size v11 v17).size)
          have HAb_v17 := Lib.hid (HAb_v11.out.past HBx.out)
          have HD_v17 := Lib.hid ((HD_v11.out.below HBx.out).more (HBx.out : Below v11.heap.size v11 v17).size)
          have HDb_v17 := Lib.hid (HDb_v11.out.past HBx.out)
          have HP_v17 := HN_v17
          clear HBx
          refine hK.out _ _ (fun _ => HSS.out _ HBv17.out) ?_
          clear hK K
          replace HInv := Lib.hid (inv_memE (i := 9) HInv.out (by kernel_rfl) (by decide))
          refine wpAnyG_one (i := 3) (by kernel_rfl) rfl rfl fun K hK => ?_
          go_simp
          refine (repeat_any _ (-1) _ 1 N v17 HA_v17.out (Nat.le_refl _) hN1 (by omega)).mono ?_
          rintro e v18 ⟨gl, rfl, hgl, hgegl, hb⟩
          have HBx := Lib.hid hb
          have GL_v18 := Lib.hid (show Blk v18 gl 3 (intA (List.replicate N (-1))) from hgl)
          have lt_aa_gl : aa < gl := Nat.lt_of_lt_of_le HAb_v17.out.lt hgegl
          have lt_ad_gl : ad < gl := Nat.lt_of_lt_of_le HDb_v17.out.lt hgegl
          have lt_pp__gl : pp_ < gl := Nat.lt_of_lt_of_le HP_v17.out.lt hgegl
          have ge_gl : w1_.heap.size ≤ gl := Nat.le_trans HBv17.out.size hgegl
          have HBv18 := Lib.hid (pt HBv17.out hb)
          have HA_v18 := Lib.hid ((HA_v17.out.below HBx.out).more (HBx.out : Below v17.heap.size v17 v18).size)
          have HAb_v18 := Lib.hid (HAb_v17.out.past HBx.out)
          have HD_v18 := Lib.hid ((HD_v17.out.below HBx.out).more (HBx.out : Below v17.heap.size v17 v18).size)
          have HDb_v18 := Lib.hid (HDb_v17.out.past HBx.out)
          have HP_v18 := Lib.hid (HP_v17.out.past HBx.out)
          clear hgl hgegl hb HBx
          refine hK.out _ _ (fun _ => HSS.out _ HBv18.out) ?_
          clear hK K
          replace HInv := Lib.hid (inv_oneE (i := 3) HInv.out (by kernel_rfl) (by decide))
          refine wpAnyG_one (i := 7) (by kernel_rfl) rfl rfl fun K hK => ?_
          go_simp
          refine (repeat_any _ (-1) _ 1 N v18 HD_v18.out (Nat.le_refl _) hN1 (by omega)).mono ?_
          rintro e v19 ⟨gh, rfl, hgh, hgegh, hb⟩
          have HBx := Lib.hid hb
          have GH_v19 := Lib.hid (show Blk v19 gh 3 (intA (List.replicate N (-1))) from hgh)
          have lt_aa_gh : aa < gh := Nat.lt_of_lt_of_le HAb_v18.out.lt hgegh
          have lt_ad_gh : ad < gh := Nat.lt_of_lt_of_le HDb_v18.out.lt hgegh
          have lt_pp__gh : pp_ < gh := Nat.lt_of_lt_of_le HP_v18.out.lt hgegh
          have lt_gl_gh : gl < gh := Nat.lt_of_lt_of_le GL_v18.out.lt hgegh
          have ge_gh : w1_.heap.size ≤ gh := Nat.le_trans HBv18.out.size hgegh
          have HBv19 := Lib.hid (pt HBv18.out hb)
          have HA_v19 := Lib.hid ((HA_v18.out.below HBx.out).more (HBx.out : Below v18.heap.size v18 v19).size)
          have HAb_v19 := Lib.hid (HAb_v18.out.past HBx.out)
          have HD_v19 := Lib.hid ((HD_v18.out.below HBx.out).more (HBx.out : Below v18.heap.size v18 v19).size)
          have HDb_v19 := Lib.hid (HDb_v18.out.past HBx.out)
          have HP_v19 := Lib.hid (HP_v18.out.past HBx.out)
          have GL_v19 := Lib.hid (GL_v18.out.past HBx.out)
          clear hgh hgegh hb HBx
          refine hK.out _ _ (fun _ => HSS.out _ HBv19.out) ?_
          clear hK K
          replace HInv := Lib.hid (inv_oneE (i := 7) HInv.out (by kernel_rfl) (by decide))
          have inv := HInv.out
          clear HInv
          have HSd := Lib.hid (HSS.out _ HBv19.out)
          refine wpAnyG_take (i := 8) (v := ?_) rfl (by kernel_rfl) (by kernel_rfl) (by kernel_rfl) (by kernel_rfl) (by kernel_rfl) (by decide) (by decide) inv (fun _ _ _ h => h) (Or.inl ⟨by rfl, ?_⟩) HSd.out ?_; rotate_left; (focus (intro W y1; obtain ⟨y1, y2⟩ := y1; go_simp; (first | done | with_reducible rfl))); clear inv; intro inv; simp only [List.getElem_toArray, List.getElem_cons_zero, List.getElem_cons_succ, Act.put, List.setIfInBounds_toArray, List.set_cons_zero, List.set_cons_succ]
          have HInv := Lib.hid inv
          clear inv HSd
          refine wpAnyG_one (i := 10) (by kernel_rfl) rfl rfl fun K hK => ?_
          refine store_op HP_v19.out (o := 0) (vs := #[.slice (some ⟨gl, 0, none⟩) N N, .slice (some ⟨gh, 0, none⟩) N N, .slice none 0 0]) (cs' := #[.slice (some ⟨gl, 0, none⟩) N N, .slice (some ⟨gh, 0, none⟩) N N, .slice none 0 0]) rfl rfl rfl (Nat.le_refl 3) forest_size (by simp [Value.oneCell']) fun v9 hv9 hp9 => ?_
          refine hK.out _ _ (fun h => absurd h (by decide)) ?_
          clear hK K
          refine wpAnyG_done (by kernel_rfl) ?_
          have HR := Lib.hid (show ForOk w1_.heap.size N pp_ gl gh v9 from ⟨hv9, GL_v19.out.put hp9 (by omega), GH_v19.out.put hp9 (by omega), ⟨ge_pp_, ge_gl, ge_gh⟩, by omega, by omega, by omega⟩)
          have HBe := Lib.hid (show Below w1_.heap.size w1_ v9 from HBv19.out.trans (hp9.below _ ge_pp_))
          go_wp2
          go_meet
          case rel => exact ⟨_, _, _, rfl, HR.out, HBe.out⟩
      · skip
        go_simp
        have HBx := Lib.hid (show Below v1.heap.size v1 (v1.alloc (.cells #[.slice none 0 0, .slice none 0 0, .slice none 0 0] 103)) from pa pr)
        have HN_v20 := Lib.hid (show Blk (v1.alloc (.cells #[.slice none 0 0, .slice none 0 0, .slice none 0 0] 103)) v1.heap.size 103 #[.slice none 0 0, .slice none 0 0, .slice none 0 0] from Blk.newAt rfl)
        have hszv20 : v1.heap.size ≤ v1.heap.size := Nat.le_refl _
        obtain ⟨pp_, hpp_⟩ : ∃ q, q = v1.heap.size := ⟨_, rfl⟩
        rw [← hpp_] at HN_v20
        have hgepp_ : v1.heap.size ≤ pp_ := by rw [hpp_]; exact Nat.le_refl _
        have lt_aa_pp_ : aa < pp_ := Nat.lt_of_lt_of_le HAb_v1.out.lt hgepp_
        have ge_pp_ : w1_.heap.size ≤ pp_ := Nat.le_trans HBv1.out.size hgepp_
        try rw [← hpp_]
        clear hpp_ hszv20 hgepp_
        obtain ⟨v20, hv20⟩ : ∃ q : World, q = (v1.alloc (.cells #[.slice none 0 0, .slice none 0 0, .slice none 0 0] 103)) := ⟨_, rfl⟩
        rw [← hv20] at HBx HN_v20 ⊢
        clear hv20
        have HBv20 := Lib.hid (pt HBv1.out HBx.out)
        have HA_v20 := Lib.hid ((HA_v1.out.below HBx.out).more (HBx.out : Below v1.heap.size v1 v20).size)
        have HAb_v20 := Lib.hid (HAb_v1.out.past HBx.out)
        have HP_v20 := HN_v20
        clear HBx
        refine hK.out _ _ (fun _ => HSS.out _ HBv20.out) ?_
        clear hK K
        replace HInv := Lib.hid (inv_memE (i := 9) HInv.out (by kernel_rfl) (by decide))
        refine wpAnyG_twoE (i := 3) (k := 4) (by kernel_rfl) rfl rfl rfl rfl (fun K hK => ?_) (fun K hK => ?_)
        · skip
          go_simp
          refine (repeat_any _ (-1) _ 1 N v20 HA_v20.out (Nat.le_refl _) hN1 (by omega)).mono ?_
          rintro e v21 ⟨gl, rfl, hgl, hgegl, hb⟩
          have HBx := Lib.hid hb
          have GL_v21 := Lib.hid (show Blk v21 gl 3 (intA (List.replicate N (-1))) from hgl)
          have lt_aa_gl : aa < gl := Nat.lt_of_lt_of_le HAb_v20.out.lt hgegl
          have lt_pp__gl : pp_ < gl := Nat.lt_of_lt_of_le HP_v20.out.lt hgegl
          have ge_gl : w1_.heap.size ≤ gl := Nat.le_trans HBv20.out.size hgegl
          have HBv21 := Lib.hid (pt HBv20.out hb)
          have HA_v21 := Lib.hid ((HA_v20.out.below HBx.out).more (HBx.out : Below v20.heap.size v20 v21).size)
          have HAb_v21 := Lib.hid (HAb_v20.out.past HBx.out)
          have HP_v21 := Lib.hid (HP_v20.out.past HBx.out)
          clear hgl hgegl hb HBx
          refine hK.out _ _ (fun _ => HSS.out _ HBv21.out) ?_
          clear hK K
          replace HInv := Lib.hid (inv_memE (i := 3) HInv.out (by kernel_rfl) (by decide))
          refine wpAnyG_one (i := 4) (by kernel_rfl) rfl rfl fun K hK => ?_
          go_simp
          have HBx := Lib.hid (show Below v21.heap.size v21 (v21.alloc (.cells #[.int .i64 (-1)] 3)) from pa pr)
          have HN_v22 := Lib.hid (show Blk (v21.alloc (.cells #[.int .i64 (-1)] 3)) v21.heap.size 3 #[.int .i64 (-1)] from Blk.newAt rfl)
          have hszv22 : v21.heap.size ≤ v21.heap.size := Nat.le_refl _
          obtain ⟨ad, had⟩ : ∃ q, q = v21.heap.size := ⟨_, rfl⟩
          rw [← had] at HN_v22
          have hgead : v21.heap.size ≤ ad := by rw [had]; exact Nat.le_refl _
          have lt_aa_ad : aa < ad := Nat.lt_of_lt_of_le HAb_v21.out.lt hgead
          have lt_pp__ad : pp_ < ad := Nat.lt_of_lt_of_le HP_v21.out.lt hgead
          have lt_gl_ad : gl < ad := Nat.lt_of_lt_of_le GL_v21.out.lt hgead
          have ge_ad : w1_.heap.size ≤ ad := Nat.le_trans HBv21.out.size hgead
          try rw [← had]
          clear had hszv22 hgead
          obtain ⟨v22, hv22⟩ : ∃ q : World, q = (v21.alloc (.cells #[.int .i64 (-1)] 3)) := ⟨_, rfl⟩
          rw [← hv22] at HBx HN_v22 ⊢
          clear hv22
          have HBv22 := Lib.hid (pt HBv21.out HBx.out)
          have HA_v22 := Lib.hid ((HA_v21.out.below HBx.out).more (HBx.out : Below v21.heap.size v21 v22).size)
          have HAb_v22 := Lib.hid (HAb_v21.out.past HBx.out)
          have HP_v22 := Lib.hid (HP_v21.out.past HBx.out)
          have GL_v22 := Lib.hid (GL_v21.out.past HBx.out)
          have HD_v22 := Lib.hid (show IntsIn v22.heap.size v22 (some ⟨ad, 0, none⟩) [-1] from intA_ints (l := [-1]) HN_v22.out)
          have HDb_v22 := HN_v22
          clear HBx
          refine hK.out _ _ (fun _ => HSS.out _ HBv22.out) ?_
          clear hK K
          replace HInv := Lib.hid (inv_oneE (i := 4) HInv.out (by kernel_rfl) (by decide))
          refine wpAnyG_one (i := 7) (by kernel_rfl) rfl rfl fun K hK => ?_
          go_simp
          refine (repeat_any _ (-1) _ 1 N v22 HD_v22.out (Nat.le_refl _) hN1 (by omega)).mono ?_
          rintro e v23 ⟨gh, rfl, hgh, hgegh, hb⟩
          have HBx := Lib.hid hb
          have GH_v23 := Lib.hid (show Blk v23 gh 3 (intA (List.replicate N (-1))) from hgh)
          have lt_aa_gh : aa < gh := Nat.lt_of_lt_of_le HAb_v22.out.lt hgegh
          have lt_pp__gh : pp_ < gh := Nat.lt_of_lt_of_le HP_v22.out.lt hgegh
          have lt_gl_gh : gl < gh := Nat.lt_of_lt_of_le GL_v22.out.lt hgegh
          have lt_ad_gh : ad < gh := Nat.lt_of_lt_of_le HDb_v22.out.lt hgegh
          have ge_gh : w1_.heap.size ≤ gh := Nat.le_trans HBv22.out.size hgegh
          have HBv23 := Lib.hid (pt HBv22.out hb)
          have HA_v23 := Lib.hid ((HA_v22.out.below HBx.out).more (HBx.out : Below v22.heap.size v22 v23).size)
          have HAb_v23 := Lib.hid (HAb_v22.out.past HBx.out)
          have HP_v23 := Lib.hid (HP_v22.out.past HBx.out)
          have GL_v23 := Lib.hid (GL_v22.out.past HBx.out)
          have HD_v23 := Lib.hid ((HD_v22.out.below HBx.out).more (HBx.out : Below v22.heap.size v22 v23).size)
          have HDb_v23 := Lib.hid (HDb_v22.out.past HBx.out)
          clear hgh hgegh hb HBx
          refine hK.out _ _ (fun _ => HSS.out _ HBv23.out) ?_
          clear hK K
          replace HInv := Lib.hid (inv_oneE (i := 7) HInv.out (by kernel_rfl) (by decide))
          have inv := HInv.out
          clear HInv
          have HSd := Lib.hid (HSS.out _ HBv23.out)
          refine wpAnyG_take (i := 8) (v := ?_) rfl (by kernel_rfl) (by kernel_rfl) (by kernel_rfl) (by kernel_rfl) (by kernel_rfl) (by decide) (by decide) inv (fun _ _ _ h => h) (Or.inl ⟨by rfl, ?_⟩) HSd.out ?_; rotate_left; (focus (intro W y1; obtain ⟨y1, y2⟩ := y1; go_simp; (first | done | with_reducible rfl))); clear inv; intro inv; simp only [List.getElem_toArray, List.getElem_cons_zero, List.getElem_cons_succ, Act.put, List.setIfInBounds_toArray, List.set_cons_zero, List.set_cons_succ]
          have HInv := Lib.hid inv
          clear inv HSd
          refine wpAnyG_one (i := 10) (by kernel_rfl) rfl rfl fun K hK => ?_
          refine store_op HP_v23.out (o := 0) (vs := #[.slice (some ⟨gl, 0, none⟩) N N, .slice (some ⟨gh, 0, none⟩) N N, .slice none 0 0]) (cs' := #[.slice (some ⟨gl, 0, none⟩) N N, .slice (some ⟨gh, 0, none⟩) N N, .slice none 0 0]) rfl rfl rfl (Nat.le_refl 3) forest_size (by simp [Value.oneCell']) fun v9 hv9 hp9 => ?_
          refine hK.out _ _ (fun h => absurd h (by decide)) ?_
          clear hK K
          refine wpAnyG_done (by kernel_rfl) ?_
          have HR := Lib.hid (show ForOk w1_.heap.size N pp_ gl gh v9 from ⟨hv9, GL_v23.out.put hp9 (by omega), GH_v23.out.put hp9 (by omega), ⟨ge_pp_, ge_gl, ge_gh⟩, by omega, by omega, by omega⟩)
          have HBe := Lib.hid (show Below w1_.heap.size w1_ v9 from HBv23.out.trans (hp9.below _ ge_pp_))
          go_wp2
          go_meet
          case rel => exact ⟨_, _, _, rfl, HR.out, HBe.out⟩
        · skip
          go_simp
          have HBx := Lib.hid (show Below v20.heap.size v20 (v20.alloc (.cells #[.int .i64 (-1)] 3)) from pa pr)
          have HN_v24 := Lib.hid (show Blk (v20.alloc (.cells #[.int .i64 (-1)] 3)) v20.heap.size 3 #[.int .i64 (-1)] from Blk.newAt rfl)
          have hszv24 : v20.heap.size ≤ v20.heap.size := Nat.le_refl _
          obtain ⟨ad, had⟩ : ∃ q, q = v20.heap.size := ⟨_, rfl⟩
          rw [← had] at HN_v24
          have hgead : v20.heap.size ≤ ad := by rw [had]; exact Nat.le_refl _
          have lt_aa_ad : aa < ad := Nat.lt_of_lt_of_le HAb_v20.out.lt hgead
          have lt_pp__ad : pp_ < ad := Nat.lt_of_lt_of_le HP_v20.out.lt hgead
          have ge_ad : w1_.heap.size ≤ ad := Nat.le_trans HBv20.out.size hgead
          try rw [← had]
          clear had hszv24 hgead
          obtain ⟨v24, hv24⟩ : ∃ q : World, q = (v20.alloc (.cells #[.int .i64 (-1)] 3)) := ⟨_, rfl⟩
          rw [← hv24] at HBx HN_v24 ⊢
          clear hv24
          have HBv24 := Lib.hid (pt HBv20.out HBx.out)
          have HA_v24 := Lib.hid ((HA_v20.out.below HBx.out).more (HBx.out : Below v20.heap.size v20 v24).size)
          have HAb_v24 := Lib.hid (HAb_v20.out.past HBx.out)
          have HP_v24 := Lib.hid (HP_v20.out.past HBx.out)
          have HD_v24 := Lib.hid (show IntsIn v24.heap.size v24 (some ⟨ad, 0, none⟩) [-1] from intA_ints (l := [-1]) HN_v24.out)
          have HDb_v24 := HN_v24
          clear HBx
          refine hK.out _ _ (fun _ => HSS.out _ HBv24.out) ?_
          clear hK K
          replace HInv := Lib.hid (inv_memE (i := 4) HInv.out (by kernel_rfl) (by decide))
          refine wpAnyG_one (i := 3) (by kernel_rfl) rfl rfl fun K hK => ?_
          go_simp
          refine (repeat_any _ (-1) _ 1 N v24 HA_v24.out (Nat.le_refl _) hN1 (by omega)).mono ?_
          rintro e v25 ⟨gl, rfl, hgl, hgegl, hb⟩
          have HBx := Lib.hid hb
          have GL_v25 := Lib.hid (show Blk v25 gl 3 (intA (List.replicate N (-1))) from hgl)
          have lt_aa_gl : aa < gl := Nat.lt_of_lt_of_le HAb_v24.out.lt hgegl
          have lt_pp__gl : pp_ < gl := Nat.lt_of_lt_of_le HP_v24.out.lt hgegl
          have lt_ad_gl : ad < gl := Nat.lt_of_lt_of_le HDb_v24.out.lt hgegl
          have ge_gl : w1_.heap.size ≤ gl := Nat.le_trans HBv24.out.size hgegl
          have HBv25 := Lib.hid (pt HBv24.out hb)
          have HA_v25 := Lib.hid ((HA_v24.out.below HBx.out).more (HBx.out : Below v24.heap.size v24 v25).size)
          have HAb_v25 := Lib.hid (HAb_v24.out.past HBx.out)
          have HP_v25 := Lib.hid (HP_v24.out.past HBx.out)
          have HD_v25 := Lib.hid ((HD_v24.out.below HBx.out).more (HBx.out : Below v24.heap.size v24 v25).size)
          have HDb_v25 := Lib.hid (HDb_v24.out.past HBx.out)
          clear hgl hgegl hb HBx
          refine hK.out _ _ (fun _ => HSS.out _ HBv25.out) ?_
          clear hK K
          replace HInv := Lib.hid (inv_oneE (i := 3) HInv.out (by kernel_rfl) (by decide))
          refine wpAnyG_one (i := 7) (by kernel_rfl) rfl rfl fun K hK => ?_
          go_simp
          refine (repeat_any _ (-1) _ 1 N v25 HD_v25.out (Nat.le_refl _) hN1 (by omega)).mono ?_
          rintro e v26 ⟨gh, rfl, hgh, hgegh, hb⟩
          have HBx := Lib.hid hb
          have GH_v26 := Lib.hid (show Blk v26 gh 3 (intA (List.replicate N (-1))) from hgh)
          have lt_aa_gh : aa < gh := Nat.lt_of_lt_of_le HAb_v25.out.lt hgegh
          have lt_pp__gh : pp_ < gh := Nat.lt_of_lt_of_le HP_v25.out.lt hgegh
          have lt_ad_gh : ad < gh := Nat.lt_of_lt_of_le HDb_v25.out.lt hgegh
          have lt_gl_gh : gl < gh := Nat.lt_of_lt_of_le GL_v25.out.lt hgegh
          have ge_gh : w1_.heap.size ≤ gh := Nat.le_trans HBv25.out.size hgegh
          have HBv26 := Lib.hid (pt HBv25.out hb)
          have HA_v26 := Lib.hid ((HA_v25.out.below HBx.out).more (HBx.out : Below v25.heap.size v25 v26).size)
          have HAb_v26 := Lib.hid (HAb_v25.out.past HBx.out)
          have HP_v26 := Lib.hid (HP_v25.out.past HBx.out)
          have HD_v26 := Lib.hid ((HD_v25.out.below HBx.out).more (HBx.out : Below v25.heap.size v25 v26).size)
          have HDb_v26 := Lib.hid (HDb_v25.out.past HBx.out)
          have GL_v26 := Lib.hid (GL_v25.out.past HBx.out)
          clear hgh hgegh hb HBx
          refine hK.out _ _ (fun _ => HSS.out _ HBv26.out) ?_
          clear hK K
          replace HInv := Lib.hid (inv_oneE (i := 7) HInv.out (by kernel_rfl) (by decide))
          have inv := HInv.out
          clear HInv
          have HSd := Lib.hid (HSS.out _ HBv26.out)
          refine wpAnyG_take (i := 8) (v := ?_) rfl (by kernel_rfl) (by kernel_rfl) (by kernel_rfl) (by kernel_rfl) (by kernel_rfl) (by decide) (by decide) inv (fun _ _ _ h => h) (Or.inl ⟨by rfl, ?_⟩) HSd.out ?_; rotate_left; (focus (intro W y1; obtain ⟨y1, y2⟩ := y1; go_simp; (first | done | with_reducible rfl))); clear inv; intro inv; simp only [List.getElem_toArray, List.getElem_cons_zero, List.getElem_cons_succ, Act.put, List.setIfInBounds_toArray, List.set_cons_zero, List.set_cons_succ]
          have HInv := Lib.hid inv
          clear inv HSd
          refine wpAnyG_one (i := 10) (by kernel_rfl) rfl rfl fun K hK => ?_
          refine store_op HP_v26.out (o := 0) (vs := #[.slice (some ⟨gl, 0, none⟩) N N, .slice (some ⟨gh, 0, none⟩) N N, .slice none 0 0]) (cs' := #[.slice (some ⟨gl, 0, none⟩) N N, .slice (some ⟨gh, 0, none⟩) N N, .slice none 0 0]) rfl rfl rfl (Nat.le_refl 3) forest_size (by simp [Value.oneCell']) fun v9 hv9 hp9 => ?_
          refine hK.out _ _ (fun h => absurd h (by decide)) ?_
          clear hK K
          refine wpAnyG_done (by kernel_rfl) ?_
          have HR := Lib.hid (show ForOk w1_.heap.size N pp_ gl gh v9 from ⟨hv9, GL_v26.out.put hp9 (by omega), GH_v26.out.put hp9 (by omega), ⟨ge_pp_, ge_gl, ge_gh⟩, by omega, by omega, by omega⟩)
          have HBe := Lib.hid (show Below w1_.heap.size w1_ v9 from HBv26.out.trans (hp9.below _ ge_pp_))
          go_wp2
          go_meet
          case rel => exact ⟨_, _, _, rfl, HR.out, HBe.out⟩
    · skip
      go_simp
      have HBx := Lib.hid (show Below vd.heap.size vd (vd.alloc (.cells #[.int .i64 (-1)] 3)) from pa pr)
      have HN_v27 := Lib.hid (show Blk (vd.alloc (.cells #[.int .i64 (-1)] 3)) vd.heap.size 3 #[.int .i64 (-1)] from Blk.newAt rfl)
      have hszv27 : vd.heap.size ≤ vd.heap.size := Nat.le_refl _
      obtain ⟨ad, had⟩ : ∃ q, q = vd.heap.size := ⟨_, rfl⟩
      rw [← had] at HN_v27
      have hgead : vd.heap.size ≤ ad := by rw [had]; exact Nat.le_refl _
      have ge_ad : w1_.heap.size ≤ ad := Nat.le_trans HBvd.out.size hgead
      try rw [← had]
      clear had hszv27 hgead
      obtain ⟨v27, hv27⟩ : ∃ q : World, q = (vd.alloc (.cells #[.int .i64 (-1)] 3)) := ⟨_, rfl⟩
      rw [← hv27] at HBx HN_v27 ⊢
      clear hv27
      have HBv27 := Lib.hid (pt HBvd.out HBx.out)
      have HD_v27 := Lib.hid (show IntsIn v27.heap.size v27 (some ⟨ad, 0, none⟩) [-1] from intA_ints (l := [-1]) HN_v27.out)
      have HDb_v27 := HN_v27
      clear HBx
      refine hK.out _ _ (fun _ => HSS.out _ HBv27.out) ?_
      clear hK K
      replace HInv := Lib.hid (inv_memE (i := 4) HInv.out (by kernel_rfl) (by decide))
      refine wpAnyG_twoE (i := 0) (k := 9) (by kernel_rfl) rfl rfl rfl rfl (fun K hK => ?_) (fun K hK => ?_)
      · skip
        go_simp
        have HBx := Lib.hid (show Below v27.heap.size v27 (v27.alloc (.cells #[.int .i64 (-1)] 3)) from pa pr)
        have HN_v28 := Lib.hid (show Blk (v27.alloc (.cells #[.int .i64 (-1)] 3)) v27.heap.size 3 #[.int .i64 (-1)] from Blk.newAt rfl)
        have hszv28 : v27.heap.size ≤ v27.heap.size := Nat.le_refl _
        obtain ⟨aa, haa⟩ : ∃ q, q = v27.heap.size := ⟨_, rfl⟩
        rw [← haa] at HN_v28
        have hgeaa : v27.heap.size ≤ aa := by rw [haa]; exact Nat.le_refl _
        have lt_ad_aa : ad < aa := Nat.lt_of_lt_of_le HDb_v27.out.lt hgeaa
        have ge_aa : w1_.heap.size ≤ aa := Nat.le_trans HBv27.out.size hgeaa
        try rw [← haa]
        clear haa hszv28 hgeaa
        obtain ⟨v28, hv28⟩ : ∃ q : World, q = (v27.alloc (.cells #[.int .i64 (-1)] 3)) := ⟨_, rfl⟩
        rw [← hv28] at HBx HN_v28 ⊢
        clear hv28
        have HBv28 := Lib.hid (pt HBv27.out HBx.out)
        have HD_v28 := Lib.hid ((HD_v27.out.below HBx.out).more (HBx.out : Below v27.heap.size v27 v28).size)
        have HDb_v28 := Lib.hid (HDb_v27.out.past HBx.out)
        have HA_v28 := Lib.hid (show IntsIn v28.heap.size v28 (some ⟨aa, 0, none⟩) [-1] from intA_ints (l := [-1]) HN_v28.out)
        have HAb_v28 := HN_v28
        clear HBx
        refine hK.out _ _ (fun _ => HSS.out _ HBv28.out) ?_
        clear hK K
        replace HInv := Lib.hid (inv_memE (i := 0) HInv.out (by kernel_rfl) (by decide))
        refine wpAnyG_twoE (i := 3) (k := 9) (by kernel_rfl) rfl rfl rfl rfl (fun K hK => ?_) (fun K hK => ?_)
        · skip
          go_simp
          refine (repeat_any _ (-1) _ 1 N v28 HA_v28.out (Nat.le_refl _) hN1 (by omega)).mono ?_
          rintro e v29 ⟨gl, rfl, hgl, hgegl, hb⟩
          have HBx := Lib.hid hb
          have GL_v29 := Lib.hid (show Blk v29 gl 3 (intA (List.replicate N (-1))) from hgl)
          have lt_ad_gl : ad < gl := Nat.lt_of_lt_of_le HDb_v28.out.lt hgegl
          have lt_aa_gl : aa < gl := Nat.lt_of_lt_of_le HAb_v28.out.lt hgegl
          have ge_gl : w1_.heap.size ≤ gl := Nat.le_trans HBv28.out.size hgegl
          have HBv29 := Lib.hid (pt HBv28.out hb)
          have HD_v29 := Lib.hid ((HD_v28.out.below HBx.out).more (HBx.out : Below v28.heap.size v28 v29).size)
          have HDb_v29 := Lib.hid (HDb_v28.out.past HBx.out)
          have HA_v29 := Lib.hid ((HA_v28.out.below HBx.out).more (HBx.out : Below v28.heap.size v28 v29).size)
          have HAb_v29 := Lib.hid (HAb_v28.out.past HBx.out)
          clear hgl hgegl hb HBx
          refine hK.out _ _ (fun _ => HSS.out _ HBv29.out) ?_
          clear hK K
          replace HInv := Lib.hid (inv_memE (i := 3) HInv.out (by kernel_rfl) (by decide))
          refine wpAnyG_twoE (i := 7) (k := 9) (by kernel_rfl) rfl rfl rfl rfl (fun K hK => ?_) (fun K hK => ?_)
          · skip
            go_simp
            refine (repeat_any _ (-1) _ 1 N v29 HD_v29.out (Nat.le_refl _) hN1 (by omega)).mono ?_
            rintro e v30 ⟨gh, rfl, hgh, hgegh, hb⟩
            have HBx := Lib.hid hb
            have GH_v30 := Lib.hid (show Blk v30 gh 3 (intA (List.replicate N (-1))) from hgh)
            have lt_ad_gh : ad < gh := Nat.lt_of_lt_of_le HDb_v29.out.lt hgegh
            have lt_aa_gh : aa < gh := Nat.lt_of_lt_of_le HAb_v29.out.lt hgegh
            have lt_gl_gh : gl < gh := Nat.lt_of_lt_of_le GL_v29.out.lt hgegh
            have ge_gh : w1_.heap.size ≤ gh := Nat.le_trans HBv29.out.size hgegh
            have HBv30 := Lib.hid (pt HBv29.out hb)
            have HD_v30 := Lib.hid ((HD_v29.out.below HBx.out).more (HBx.out : Below v29.heap.size v29 v30).size)
            have HDb_v30 := Lib.hid (HDb_v29.out.past HBx.out)
            have HA_v30 := Lib.hid ((HA_v29.out.below HBx.out).more (HBx.out : Below v29.heap.size v29 v30).size)
            have HAb_v30 := Lib.hid (HAb_v29.out.past HBx.out)
            have GL_v30 := Lib.hid (GL_v29.out.past HBx.out)
            clear hgh hgegh hb HBx
            refine hK.out _ _ (fun _ => HSS.out _ HBv30.out) ?_
            clear hK K
            replace HInv := Lib.hid (inv_memE (i := 7) HInv.out (by kernel_rfl) (by decide))
            have inv := HInv.out
            clear HInv
            have HSd := Lib.hid (HSS.out _ HBv30.out)
            refine wpAnyG_take (i := 8) (v := ?_) rfl (by kernel_rfl) (by kernel_rfl) (by kernel_rfl) (by kernel_rfl) (by kernel_rfl) (by decide) (by decide) inv (fun _ _ _ h => h) (Or.inl ⟨by rfl, ?_⟩) HSd.out ?_; rotate_left; (focus (intro W y1; obtain ⟨y1, y2⟩ := y1; go_simp; (first | done | with_reducible rfl))); clear inv; intro inv; simp only [List.getElem_toArray, List.getElem_cons_zero, List.getElem_cons_succ, Act.put, List.setIfInBounds_toArray, List.set_cons_zero, List.set_cons_succ]
            have HInv := Lib.hid inv
            clear inv HSd
            refine wpAnyG_one (i := 9) (by kernel_rfl) rfl rfl fun K hK => ?_
            go_simp
            have HBx := Lib.hid (show Below v30.heap.size v30 (v30.alloc (.cells #[.slice none 0 0, .slice none 0 0, .slice none 0 0] 103)) from pa pr)
            have HN_v31 := Lib.hid (show Blk (v30.alloc (.cells #[.slice none 0 0, .slice none 0 0, .slice none 0 0] 103)) v30.heap.size 103 #[.slice none 0 0, .slice none 0 0, .slice none 0 0] from Blk.newAt rfl)
            have hszv31 : v30.heap.size ≤ v30.heap.size := Nat.le_refl _
            obtain ⟨pp_, hpp_⟩ : ∃ q, q = v30.heap.size := ⟨_, rfl⟩
            rw [← hpp_] at HN_v31
            have hgepp_ : v30.heap.size ≤ pp_ := by rw [hpp_]; exact Nat.le_refl _
            have lt_ad_pp_ : ad < pp_ := Nat.lt_of_lt_of_le HDb_v30.out.lt hgepp_
            have lt_aa_pp_ : aa < pp_ := Nat.lt_of_lt_of_le HAb_v30.out.lt hgepp_
            have lt_gl_pp_ : gl < pp_ := Nat.lt_of_lt_of_le GL_v30.out.lt hgepp_
            have lt_gh_pp_ : gh < pp_ := Nat.lt_of_lt_of_le GH_v30.out.lt hgepp_
            have ge_pp_ : w1_.heap.size ≤ pp_ := Nat.le_trans HBv30.out.size hgepp_
            try rw [← hpp_]
            clear hpp_ hszv31 hgepp_
            obtain ⟨v31, hv31⟩ : ∃ q : World, q = (v30.alloc (.cells #[.slice none 0 0, .slice none 0 0, .slice none 0 0] 103)) := ⟨_, rfl⟩
            rw [← hv31] at HBx HN_v31 ⊢
            clear hv31
            have HBv31 := Lib.hid (pt HBv30.out HBx.out)
            have HD_v31 := Lib.hid ((HD_v30.out.below HBx.out).more (HBx.out : Below v30.heap.size v30 v31).size)
            have HDb_v31 := Lib.hid (HDb_v30.out.past HBx.out)
            have HA_v31 := Lib.hid ((HA_v30.out.below HBx.out).more (HBx.out : Below v30.heap.size v30 v31).size)
            have HAb_v31 := Lib.hid (HAb_v30.out.past HBx.out)
            have GL_v31 := Lib.hid (GL_v30.out.past HBx.out)
            have GH_v31 := Lib.hid (GH_v30.out.past HBx.out)
            have HP_v31 := HN_v31
            clear HBx
            refine hK.out _ _ (fun _ => HSS.out _ HBv31.out) ?_
            clear hK K
            replace HInv := Lib.hid (inv_oneE (i := 9) HInv.out (by kernel_rfl) (by decide))
            refine wpAnyG_one (i := 10) (by kernel_rfl) rfl rfl fun K hK => ?_
            refine store_op HP_v31.out (o := 0) (vs := #[.slice (some ⟨gl, 0, none⟩) N N, .slice (some ⟨gh, 0, none⟩) N N, .slice none 0 0]) (cs' := #[.slice (some ⟨gl, 0, none⟩) N N, .slice (some ⟨gh, 0, none⟩) N N, .slice none 0 0]) rfl rfl rfl (Nat.le_refl 3) forest_size (by simp [Value.oneCell']) fun v9 hv9 hp9 => ?_
            refine hK.out _ _ (fun h => absurd h (by decide)) ?_
            clear hK K
            refine wpAnyG_done (by kernel_rfl) ?_
            have HR := Lib.hid (show ForOk w1_.heap.size N pp_ gl gh v9 from ⟨hv9, GL_v31.out.put hp9 (by omega), GH_v31.out.put hp9 (by omega), ⟨ge_pp_, ge_gl, ge_gh⟩, by omega, by omega, by omega⟩)
            have HBe := Lib.hid (show Below w1_.heap.size w1_ v9 from HBv31.out.trans (hp9.below _ ge_pp_))
            go_wp2
            go_meet
            case rel => exact ⟨_, _, _, rfl, HR.out, HBe.out⟩
          · skip
            go_simp
            have HBx := Lib.hid (show Below v29.heap.size v29 (v29.alloc (.cells #[.slice none 0 0, .slice none 0 0, .slice none 0 0] 103)) from pa pr)
            have HN_v32 := Lib.hid (show Blk (v29.alloc (.cells #[.slice none 0 0, .slice none 0 0, .slice none 0 0] 103)) v29.heap.size 103 #[.slice none 0 0, .slice none 0 0, .slice none 0 0] from Blk.newAt rfl)
            have hszv32 : v29.heap.size ≤ v29.heap.size := Nat.le_refl _
            obtain ⟨pp_, hpp_⟩ : ∃ q, q = v29.heap.size := ⟨_, rfl⟩
            rw [← hpp_] at HN_v32
            have hgepp_ : v29.heap.size ≤ pp_ := by rw [hpp_]; exact Nat.le_refl _
            have lt_ad_pp_ : ad < pp_ := Nat.lt_of_lt_of_le HDb_v29.out.lt hgepp_
            have lt_aa_pp_ : aa < pp_ := Nat.lt_of_lt_of_le HAb_v29.out.lt hgepp_
            have lt_gl_pp_ : gl < pp_ := Nat.lt_of_lt_of_le GL_v29.out.lt hgepp_
            have ge_pp_ : w1_.heap.size ≤ pp_ := Nat.le_trans HBv29.out.size hgepp_
            try rw [← hpp_]
            clear hpp_ hszv32 hgepp_
            obtain ⟨v32, hv32⟩ : ∃ q : World, q = (v29.alloc (.cells #[.slice none 0 0, .slice none 0 0, .slice none 0 0] 103)) := ⟨_, rfl⟩
            rw [← hv32] at HBx HN_v32 ⊢
            clear hv32
            have HBv32 := Lib.hid (pt HBv29.out HBx.out)
            have HD_v32 := Lib.hid ((HD_v29.out.below HBx.out).more (HBx.out : Below v29.heap.size v29 v32).size)
            have HDb_v32 := Lib.hid (HDb_v29.out.past HBx.out)
            have HA_v32 := Lib.hid ((HA_v29.out.below HBx.out).more (HBx.out : Below v29.heap.size v29 v32).size)
            have HAb_v32 := Lib.hid (HAb_v29.out.past HBx.out)
            have GL_v32 := Lib.hid (GL_v29.out.past HBx.out)
            have HP_v32 := HN_v32
            clear HBx
            refine hK.out _ _ (fun _ => HSS.out _ HBv32.out) ?_
            clear hK K
            replace HInv := Lib.hid (inv_memE (i := 9) HInv.out (by kernel_rfl) (by decide))
            refine wpAnyG_one (i := 7) (by kernel_rfl) rfl rfl fun K hK => ?_
            go_simp
            refine (repeat_any _ (-1) _ 1 N v32 HD_v32.out (Nat.le_refl _) hN1 (by omega)).mono ?_
            rintro e v33 ⟨gh, rfl, hgh, hgegh, hb⟩
            have HBx := Lib.hid hb
            have GH_v33 := Lib.hid (show Blk v33 gh 3 (intA (List.replicate N (-1))) from hgh)
            have lt_ad_gh : ad < gh := Nat.lt_of_lt_of_le HDb_v32.out.lt hgegh
            have lt_aa_gh : aa < gh := Nat.lt_of_lt_of_le HAb_v32.out.lt hgegh
            have lt_gl_gh : gl < gh := Nat.lt_of_lt_of_le GL_v32.out.lt hgegh
            have lt_pp__gh : pp_ < gh := Nat.lt_of_lt_of_le HP_v32.out.lt hgegh
            have ge_gh : w1_.heap.size ≤ gh := Nat.le_trans HBv32.out.size hgegh
            have HBv33 := Lib.hid (pt HBv32.out hb)
            have HD_v33 := Lib.hid ((HD_v32.out.below HBx.out).more (HBx.out : Below v32.heap.size v32 v33).size)
            have HDb_v33 := Lib.hid (HDb_v32.out.past HBx.out)
            have HA_v33 := Lib.hid ((HA_v32.out.below HBx.out).more (HBx.out : Below v32.heap.size v32 v33).size)
            have HAb_v33 := Lib.hid (HAb_v32.out.past HBx.out)
            have GL_v33 := Lib.hid (GL_v32.out.past HBx.out)
            have HP_v33 := Lib.hid (HP_v32.out.past HBx.out)
            clear hgh hgegh hb HBx
            refine hK.out _ _ (fun _ => HSS.out _ HBv33.out) ?_
            clear hK K
            replace HInv := Lib.hid (inv_oneE (i := 7) HInv.out (by kernel_rfl) (by decide))
            have inv := HInv.out
            clear HInv
            have HSd := Lib.hid (HSS.out _ HBv33.out)
            refine wpAnyG_take (i := 8) (v := ?_) rfl (by kernel_rfl) (by kernel_rfl) (by kernel_rfl) (by kernel_rfl) (by kernel_rfl) (by decide) (by decide) inv (fun _ _ _ h => h) (Or.inl ⟨by rfl, ?_⟩) HSd.out ?_; rotate_left; (focus (intro W y1; obtain ⟨y1, y2⟩ := y1; go_simp; (first | done | with_reducible rfl))); clear inv; intro inv; simp only [List.getElem_toArray, List.getElem_cons_zero, List.getElem_cons_succ, Act.put, List.setIfInBounds_toArray, List.set_cons_zero, List.set_cons_succ]
            have HInv := Lib.hid inv
            clear inv HSd
            refine wpAnyG_one (i := 10) (by kernel_rfl) rfl rfl fun K hK => ?_
            refine store_op HP_v33.out (o := 0) (vs := #[.slice (some ⟨gl, 0, none⟩) N N, .slice (some ⟨gh, 0, none⟩) N N, .slice none 0 0]) (cs' := #[.slice (some ⟨gl, 0, none⟩) N N, .slice (some ⟨gh, 0, none⟩) N N, .slice none 0 0]) rfl rfl rfl (Nat.le_refl 3) forest_size (by simp [Value.oneCell']) fun v9 hv9 hp9 => ?_
            refine hK.out _ _ (fun h => absurd h (by decide)) ?_
            clear hK K
            refine wpAnyG_done (by kernel_rfl) ?_
            have HR := Lib.hid (show ForOk w1_.heap.size N pp_ gl gh v9 from ⟨hv9, GL_v33.out.put hp9 (by omega), GH_v33.out.put hp9 (by omega), ⟨ge_pp_, ge_gl, ge_gh⟩, by omega, by omega, by omega⟩)
            have HBe := Lib.hid (show Below w1_.heap.size w1_ v9 from HBv33.out.trans (hp9.below _ ge_pp_))
            go_wp2
            go_meet
            case rel => exact ⟨_, _, _, rfl, HR.out, HBe.out⟩
        · skip
          go_simp
          have HBx := Lib.hid (show Below v28.heap.size v28 (v28.alloc (.cells #[.slice none 0 0, .slice none 0 0, .slice none 0 0] 103)) from pa pr)
          have HN_v34 := Lib.hid (show Blk (v28.alloc (.cells #[.slice none 0 0, .slice none 0 0, .slice none 0 0] 103)) v28.heap.size 103 #[.slice none 0 0, .slice none 0 0, .slice none 0 0] from Blk.newAt rfl)
          have hszv34 : v28.heap.size ≤ v28.heap.size := Nat.le_refl _
          obtain ⟨pp_, hpp_⟩ : ∃ q, q = v28.heap.size := ⟨_, rfl⟩
          rw [← hpp_] at HN_v34
          have hgepp_ : v28.heap.size ≤ pp_ := by rw [hpp_]; exact Nat.le_refl _
          have lt_ad_pp_ : ad < pp_ := Nat.lt_of_lt_of_le HDb_v28.out.lt hgepp_
          have lt_aa_pp_ : aa < pp_ := Nat.lt_of_lt_of_le HAb_v28.out.lt hgepp_
          have ge_pp_ : w1_.heap.size ≤ pp_ := Nat.le_trans HBv28.out.size hgepp_
          try rw [← hpp_]
          clear hpp_ hszv34 hgepp_
          obtain ⟨v34, hv34⟩ : ∃ q : World, q = (v28.alloc (.cells #[.slice none 0 0, .slice none 0 0, .slice none 0 0] 103)) := ⟨_, rfl⟩
          rw [← hv34] at HBx HN_v34 ⊢
          clear hv34
          have HBv34 := Lib.hid (pt HBv28.out HBx.out)
          have HD_v34 := Lib.hid ((HD_v28.out.below HBx.out).more (HBx.out : Below v28.heap.size v28 v34).size)
          have HDb_v34 := Lib.hid (HDb_v28.out.past HBx.out)
          have HA_v34 := Lib.hid ((HA_v28.out.below HBx.out).more (HBx.out : Below v28.heap.size v28 v34).size)
          have HAb_v34 := Lib.hid (HAb_v28.out.past HBx.out)
          have HP_v34 := HN_v34
          clear HBx
          refine hK.out _ _ (fun _ => HSS.out _ HBv34.out) ?_
          clear hK K
          replace HInv := Lib.hid (inv_memE (i := 9) HInv.out (by kernel_rfl) (by decide))
          refine wpAnyG_one (i := 3) (by kernel_rfl) rfl rfl fun K hK => ?_
          go_simp
          refine (repeat_any _ (-1) _ 1 N v34 HA_v34.out (Nat.le_refl _) hN1 (by omega)).mono ?_
          rintro e v35 ⟨gl, rfl, hgl, hgegl, hb⟩
          have HBx := Lib.hid hb
          have GL_v35 := Lib.hid (show Blk v35 gl 3 (intA (List.replicate N (-1))) from hgl)
          have lt_ad_gl : ad < gl := Nat.lt_of_lt_of_le HDb_v34.out.lt hgegl
          have lt_aa_gl : aa < gl := Nat.lt_of_lt_of_le HAb_v34.out.lt hgegl
          have lt_pp__gl : pp_ < gl := Nat.lt_of_lt_of_le HP_v34.out.lt hgegl
          have ge_gl : w1_.heap.size ≤ gl := Nat.le_trans HBv34.out.size hgegl
          have HBv35 := Lib.hid (pt HBv34.out hb)
          have HD_v35 := Lib.hid ((HD_v34.out.below HBx.out).more (HBx.out : Below v34.heap.size v34 v35).size)
          have HDb_v35 := Lib.hid (HDb_v34.out.past HBx.out)
          have HA_v35 := Lib.hid ((HA_v34.out.below HBx.out).more (HBx.out : Below v34.heap.size v34 v35).size)
          have HAb_v35 := Lib.hid (HAb_v34.out.past HBx.out)
          have HP_v35 := Lib.hid (HP_v34.out.past HBx.out)
          clear hgl hgegl hb HBx
          refine hK.out _ _ (fun _ => HSS.out _ HBv35.out) ?_
          clear hK K
          replace HInv := Lib.hid (inv_oneE (i := 3) HInv.out (by kernel_rfl) (by decide))
          refine wpAnyG_one (i := 7) (by kernel_rfl) rfl rfl fun K hK => ?_
          go_simp
          refine (repeat_any _ (-1) _ 1 N v35 HD_v35.out (Nat.le_refl _) hN1 (by omega)).mono ?_
          rintro e v36 ⟨gh, rfl, hgh, hgegh, hb⟩
          have HBx := Lib.hid hb
          have GH_v36 := Lib.hid (show Blk v36 gh 3 (intA (List.replicate N (-1))) from hgh)
          have lt_ad_gh : ad < gh := Nat.lt_of_lt_of_le HDb_v35.out.lt hgegh
          have lt_aa_gh : aa < gh := Nat.lt_of_lt_of_le HAb_v35.out.lt hgegh
          have lt_pp__gh : pp_ < gh := Nat.lt_of_lt_of_le HP_v35.out.lt hgegh
          have lt_gl_gh : gl < gh := Nat.lt_of_lt_of_le GL_v35.out.lt hgegh
          have ge_gh : w1_.heap.size ≤ gh := Nat.le_trans HBv35.out.size hgegh
          have HBv36 := Lib.hid (pt HBv35.out hb)
          have HD_v36 := Lib.hid ((HD_v35.out.below HBx.out).more (HBx.out : Below v35.heap.size v35 v36).size)
          have HDb_v36 := Lib.hid (HDb_v35.out.past HBx.out)
          have HA_v36 := Lib.hid ((HA_v35.out.below HBx.out).more (HBx.out : Below v35.heap.size v35 v36).size)
          have HAb_v36 := Lib.hid (HAb_v35.out.past HBx.out)
          have HP_v36 := Lib.hid (HP_v35.out.past HBx.out)
          have GL_v36 := Lib.hid (GL_v35.out.past HBx.out)
          clear hgh hgegh hb HBx
          refine hK.out _ _ (fun _ => HSS.out _ HBv36.out) ?_
          clear hK K
          replace HInv := Lib.hid (inv_oneE (i := 7) HInv.out (by kernel_rfl) (by decide))
          have inv := HInv.out
          clear HInv
          have HSd := Lib.hid (HSS.out _ HBv36.out)
          refine wpAnyG_take (i := 8) (v := ?_) rfl (by kernel_rfl) (by kernel_rfl) (by kernel_rfl) (by kernel_rfl) (by kernel_rfl) (by decide) (by decide) inv (fun _ _ _ h => h) (Or.inl ⟨by rfl, ?_⟩) HSd.out ?_; rotate_left; (focus (intro W y1; obtain ⟨y1, y2⟩ := y1; go_simp; (first | done | with_reducible rfl))); clear inv; intro inv; simp only [List.getElem_toArray, List.getElem_cons_zero, List.getElem_cons_succ, Act.put, List.setIfInBounds_toArray, List.set_cons_zero, List.set_cons_succ]
          have HInv := Lib.hid inv
          clear inv HSd
          refine wpAnyG_one (i := 10) (by kernel_rfl) rfl rfl fun K hK => ?_
          refine store_op HP_v36.out (o := 0) (vs := #[.slice (some ⟨gl, 0, none⟩) N N, .slice (some ⟨gh, 0, none⟩) N N, .slice none 0 0]) (cs' := #[.slice (some ⟨gl, 0, none⟩) N N, .slice (some ⟨gh, 0, none⟩) N N, .slice none 0 0]) rfl rfl rfl (Nat.le_refl 3) forest_size (by simp [Value.oneCell']) fun v9 hv9 hp9 => ?_
          refine hK.out _ _ (fun h => absurd h (by decide)) ?_
          clear hK K
          refine wpAnyG_done (by kernel_rfl) ?_
          have HR := Lib.hid (show ForOk w1_.heap.size N pp_ gl gh v9 from ⟨hv9, GL_v36.out.put hp9 (by omega), GH_v36.out.put hp9 (by omega), ⟨ge_pp_, ge_gl, ge_gh⟩, by omega, by omega, by omega⟩)
          have HBe := Lib.hid (show Below w1_.heap.size w1_ v9 from HBv36.out.trans (hp9.below _ ge_pp_))
          go_wp2
          go_meet
          case rel => exact ⟨_, _, _, rfl, HR.out, HBe.out⟩
      · skip
        go_simp
        have HBx := Lib.hid (show Below v27.heap.size v27 (v27.alloc (.cells #[.slice none 0 0, .slice none 0 0, .slice none 0 0] 103)) from pa pr)
        have HN_v37 := Lib.hid (show Blk (v27.alloc (.cells #[.slice none 0 0, .slice none 0 0, .slice none 0 0] 103)) v27.heap.size 103 #[.slice none 0 0, .slice none 0 0, .slice none 0 0] from Blk.newAt rfl)
        have hszv37 : v27.heap.size ≤ v27.heap.size := Nat.le_refl _
        obtain ⟨pp_, hpp_⟩ : ∃ q, q = v27.heap.size := ⟨_, rfl⟩
        rw [← hpp_] at HN_v37
        have hgepp_ : v27.heap.size ≤ pp_ := by rw [hpp_]; exact Nat.le_refl _
        have lt_ad_pp_ : ad < pp_ := Nat.lt_of_lt_of_le HDb_v27.out.lt hgepp_
        have ge_pp_ : w1_.heap.size ≤ pp_ := Nat.le_trans HBv27.out.size hgepp_
        try rw [← hpp_]
        clear hpp_ hszv37 hgepp_
        obtain ⟨v37, hv37⟩ : ∃ q : World, q = (v27.alloc (.cells #[.slice none 0 0, .slice none 0 0, .slice none 0 0] 103)) := ⟨_, rfl⟩
        rw [← hv37] at HBx HN_v37 ⊢
        clear hv37
        have HBv37 := Lib.hid (pt HBv27.out HBx.out)
        have HD_v37 := Lib.hid ((HD_v27.out.below HBx.out).more (HBx.out : Below v27.heap.size v27 v37).size)
        have HDb_v37 := Lib.hid (HDb_v27.out.past HBx.out)
        have HP_v37 := HN_v37
        clear HBx
        refine hK.out _ _ (fun _ => HSS.out _ HBv37.out) ?_
        clear hK K
        replace HInv := Lib.hid (inv_memE (i := 9) HInv.out (by kernel_rfl) (by decide))
        refine wpAnyG_one (i := 0) (by kernel_rfl) rfl rfl fun K hK => ?_
        go_simp
        have HBx := Lib.hid (show Below v37.heap.size v37 (v37.alloc (.cells #[.int .i64 (-1)] 3)) from pa pr)
        have HN_v38 := Lib.hid (show Blk (v37.alloc (.cells #[.int .i64 (-1)] 3)) v37.heap.size 3 #[.int .i64 (-1)] from Blk.newAt rfl)
        have hszv38 : v37.heap.size ≤ v37.heap.size := Nat.le_refl _
        obtain ⟨aa, haa⟩ : ∃ q, q = v37.heap.size := ⟨_, rfl⟩
        rw [← haa] at HN_v38
        have hgeaa : v37.heap.size ≤ aa := by rw [haa]; exact Nat.le_refl _
        have lt_ad_aa : ad < aa := Nat.lt_of_lt_of_le HDb_v37.out.lt hgeaa
        have lt_pp__aa : pp_ < aa := Nat.lt_of_lt_of_le HP_v37.out.lt hgeaa
        have ge_aa : w1_.heap.size ≤ aa := Nat.le_trans HBv37.out.size hgeaa
        try rw [← haa]
        clear haa hszv38 hgeaa
        obtain ⟨v38, hv38⟩ : ∃ q : World, q = (v37.alloc (.cells #[.int .i64 (-1)] 3)) := ⟨_, rfl⟩
        rw [← hv38] at HBx HN_v38 ⊢
        clear hv38
        have HBv38 := Lib.hid (pt HBv37.out HBx.out)
        have HD_v38 := Lib.hid ((HD_v37.out.below HBx.out).more (HBx.out : Below v37.heap.size v37 v38).size)
        have HDb_v38 := Lib.hid (HDb_v37.out.past HBx.out)
        have HP_v38 := Lib.hid (HP_v37.out.past HBx.out)
        have HA_v38 := Lib.hid (show IntsIn v38.heap.size v38 (some ⟨aa, 0, none⟩) [-1] from intA_ints (l := [-1]) HN_v38.out)
        have HAb_v38 := HN_v38
        clear HBx
        refine hK.out _ _ (fun _ => HSS.out _ HBv38.out) ?_
        clear hK K
        replace HInv := Lib.hid (inv_oneE (i := 0) HInv.out (by kernel_rfl) (by decide))
        refine wpAnyG_one (i := 3) (by kernel_rfl) rfl rfl fun K hK => ?_
        go_simp
        refine (repeat_any _ (-1) _ 1 N v38 HA_v38.out (Nat.le_refl _) hN1 (by omega)).mono ?_
        rintro e v39 ⟨gl, rfl, hgl, hgegl, hb⟩
        have HBx := Lib.hid hb
        have GL_v39 := Lib.hid (show Blk v39 gl 3 (intA (List.replicate N (-1))) from hgl)
        have lt_ad_gl : ad < gl := Nat.lt_of_lt_of_le HDb_v38.out.lt hgegl
        have lt_pp__gl : pp_ < gl := Nat.lt_of_lt_of_le HP_v38.out.lt hgegl
        have lt_aa_gl : aa < gl := Nat.lt_of_lt_of_le HAb_v38.out.lt hgegl
        have ge_gl : w1_.heap.size ≤ gl := Nat.le_trans HBv38.out.size hgegl
        have HBv39 := Lib.hid (pt HBv38.out hb)
        have HD_v39 := Lib.hid ((HD_v38.out.below HBx.out).more (HBx.out : Below v38.heap.size v38 v39).size)
        have HDb_v39 := Lib.hid (HDb_v38.out.past HBx.out)
        have HP_v39 := Lib.hid (HP_v38.out.past HBx.out)
        have HA_v39 := Lib.hid ((HA_v38.out.below HBx.out).more (HBx.out : Below v38.heap.size v38 v39).size)
        have HAb_v39 := Lib.hid (HAb_v38.out.past HBx.out)
        clear hgl hgegl hb HBx
        refine hK.out _ _ (fun _ => HSS.out _ HBv39.out) ?_
        clear hK K
        replace HInv := Lib.hid (inv_oneE (i := 3) HInv.out (by kernel_rfl) (by decide))
        refine wpAnyG_one (i := 7) (by kernel_rfl) rfl rfl fun K hK => ?_
        go_simp
        refine (repeat_any _ (-1) _ 1 N v39 HD_v39.out (Nat.le_refl _) hN1 (by omega)).mono ?_
        rintro e v40 ⟨gh, rfl, hgh, hgegh, hb⟩
        have HBx := Lib.hid hb
        have GH_v40 := Lib.hid (show Blk v40 gh 3 (intA (List.replicate N (-1))) from hgh)
        have lt_ad_gh : ad < gh := Nat.lt_of_lt_of_le HDb_v39.out.lt hgegh
        have lt_pp__gh : pp_ < gh := Nat.lt_of_lt_of_le HP_v39.out.lt hgegh
        have lt_aa_gh : aa < gh := Nat.lt_of_lt_of_le HAb_v39.out.lt hgegh
        have lt_gl_gh : gl < gh := Nat.lt_of_lt_of_le GL_v39.out.lt hgegh
        have ge_gh : w1_.heap.size ≤ gh := Nat.le_trans HBv39.out.size hgegh
        have HBv40 := Lib.hid (pt HBv39.out hb)
        have HD_v40 := Lib.hid ((HD_v39.out.below HBx.out).more (HBx.out : Below v39.heap.size v39 v40).size)
        have HDb_v40 := Lib.hid (HDb_v39.out.past HBx.out)
        have HP_v40 := Lib.hid (HP_v39.out.past HBx.out)
        have HA_v40 := Lib.hid ((HA_v39.out.below HBx.out).more (HBx.out : Below v39.heap.size v39 v40).size)
        have HAb_v40 := Lib.hid (HAb_v39.out.past HBx.out)
        have GL_v40 := Lib.hid (GL_v39.out.past HBx.out)
        clear hgh hgegh hb HBx
        refine hK.out _ _ (fun _ => HSS.out _ HBv40.out) ?_
        clear hK K
        replace HInv := Lib.hid (inv_oneE (i := 7) HInv.out (by kernel_rfl) (by decide))
        have inv := HInv.out
        clear HInv
        have HSd := Lib.hid (HSS.out _ HBv40.out)
        refine wpAnyG_take (i := 8) (v := ?_) rfl (by kernel_rfl) (by kernel_rfl) (by kernel_rfl) (by kernel_rfl) (by kernel_rfl) (by decide) (by decide) inv (fun _ _ _ h => h) (Or.inl ⟨by rfl, ?_⟩) HSd.out ?_; rotate_left; (focus (intro W y1; obtain ⟨y1, y2⟩ := y1; go_simp; (first | done | with_reducible rfl))); clear inv; intro inv; simp only [List.getElem_toArray, List.getElem_cons_zero, List.getElem_cons_succ, Act.put, List.setIfInBounds_toArray, List.set_cons_zero, List.set_cons_succ]
        have HInv := Lib.hid inv
        clear inv HSd
        refine wpAnyG_one (i := 10) (by kernel_rfl) rfl rfl fun K hK => ?_
        refine store_op HP_v40.out (o := 0) (vs := #[.slice (some ⟨gl, 0, none⟩) N N, .slice (some ⟨gh, 0, none⟩) N N, .slice none 0 0]) (cs' := #[.slice (some ⟨gl, 0, none⟩) N N, .slice (some ⟨gh, 0, none⟩) N N, .slice none 0 0]) rfl rfl rfl (Nat.le_refl 3) forest_size (by simp [Value.oneCell']) fun v9 hv9 hp9 => ?_
        refine hK.out _ _ (fun h => absurd h (by decide)) ?_
        clear hK K
        refine wpAnyG_done (by kernel_rfl) ?_
        have HR := Lib.hid (show ForOk w1_.heap.size N pp_ gl gh v9 from ⟨hv9, GL_v40.out.put hp9 (by omega), GH_v40.out.put hp9 (by omega), ⟨ge_pp_, ge_gl, ge_gh⟩, by omega, by omega, by omega⟩)
        have HBe := Lib.hid (show Below w1_.heap.size w1_ v9 from HBv40.out.trans (hp9.below _ ge_pp_))
        go_wp2
        go_meet
        case rel => exact ⟨_, _, _, rfl, HR.out, HBe.out⟩
    · skip
      go_simp
      have HBx := Lib.hid (show Below vd.heap.size vd (vd.alloc (.cells #[.slice none 0 0, .slice none 0 0, .slice none 0 0] 103)) from pa pr)
      have HN_v41 := Lib.hid (show Blk (vd.alloc (.cells #[.slice none 0 0, .slice none 0 0, .slice none 0 0] 103)) vd.heap.size 103 #[.slice none 0 0, .slice none 0 0, .slice none 0 0] from Blk.newAt rfl)
      have hszv41 : vd.heap.size ≤ vd.heap.size := Nat.le_refl _
      obtain ⟨pp_, hpp_⟩ : ∃ q, q = vd.heap.size := ⟨_, rfl⟩
      rw [← hpp_] at HN_v41
      have hgepp_ : vd.heap.size ≤ pp_ := by rw [hpp_]; exact Nat.le_refl _
      have ge_pp_ : w1_.heap.size ≤ pp_ := Nat.le_trans HBvd.out.size hgepp_
      try rw [← hpp_]
      clear hpp_ hszv41 hgepp_
      obtain ⟨v41, hv41⟩ : ∃ q : World, q = (vd.alloc (.cells #[.slice none 0 0, .slice none 0 0, .slice none 0 0] 103)) := ⟨_, rfl⟩
      rw [← hv41] at HBx HN_v41 ⊢
      clear hv41
      have HBv41 := Lib.hid (pt HBvd.out HBx.out)
      have HP_v41 := HN_v41
      clear HBx
      refine hK.out _ _ (fun _ => HSS.out _ HBv41.out) ?_
      clear hK K
      replace HInv := Lib.hid (inv_memE (i := 9) HInv.out (by kernel_rfl) (by decide))
      refine wpAnyG_twoE (i := 0) (k := 4) (by kernel_rfl) rfl rfl rfl rfl (fun K hK => ?_) (fun K hK => ?_)
      · skip
        go_simp
        have HBx := Lib.hid (show Below v41.heap.size v41 (v41.alloc (.cells #[.int .i64 (-1)] 3)) from pa pr)
        have HN_v42 := Lib.hid (show Blk (v41.alloc (.cells #[.int .i64 (-1)] 3)) v41.heap.size 3 #[.int .i64 (-1)] from Blk.newAt rfl)
        have hszv42 : v41.heap.size ≤ v41.heap.size := Nat.le_refl _
        obtain ⟨aa, haa⟩ : ∃ q, q = v41.heap.size := ⟨_, rfl⟩
        rw [← haa] at HN_v42
        have hgeaa : v41.heap.size ≤ aa := by rw [haa]; exact Nat.le_refl _
        have lt_pp__aa : pp_ < aa := Nat.lt_of_lt_of_le HP_v41.out.lt hgeaa
        have ge_aa : w1_.heap.size ≤ aa := Nat.le_trans HBv41.out.size hgeaa
        try rw [← haa]
        clear haa hszv42 hgeaa
        obtain ⟨v42, hv42⟩ : ∃ q : World, q = (v41.alloc (.cells #[.int .i64 (-1)] 3)) := ⟨_, rfl⟩
        rw [← hv42] at HBx HN_v42 ⊢
        clear hv42
        have HBv42 := Lib.hid (pt HBv41.out HBx.out)
        have HP_v42 := Lib.hid (HP_v41.out.past HBx.out)
        have HA_v42 := Lib.hid (show IntsIn v42.heap.size v42 (some ⟨aa, 0, none⟩) [-1] from intA_ints (l := [-1]) HN_v42.out)
        have HAb_v42 := HN_v42
        clear HBx
        refine hK.out _ _ (fun _ => HSS.out _ HBv42.out) ?_
        clear hK K
        replace HInv := Lib.hid (inv_memE (i := 0) HInv.out (by kernel_rfl) (by decide))
        refine wpAnyG_twoE (i := 3) (k := 4) (by kernel_rfl) rfl rfl rfl rfl (fun K hK => ?_) (fun K hK => ?_)
        · skip
          go_simp
          refine (repeat_any _ (-1) _ 1 N v42 HA_v42.out (Nat.le_refl _) hN1 (by omega)).mono ?_
          rintro e v43 ⟨gl, rfl, hgl, hgegl, hb⟩
          have HBx := Lib.hid hb
          have GL_v43 := Lib.hid (show Blk v43 gl 3 (intA (List.replicate N (-1))) from hgl)
          have lt_pp__gl : pp_ < gl := Nat.lt_of_lt_of_le HP_v42.out.lt hgegl
          have lt_aa_gl : aa < gl := Nat.lt_of_lt_of_le HAb_v42.out.lt hgegl
          have ge_gl : w1_.heap.size ≤ gl := Nat.le_trans HBv42.out.size hgegl
          have HBv43 := Lib.hid (pt HBv42.out hb)
          have HP_v43 := Lib.hid (HP_v42.out.past HBx.out)
          have HA_v43 := Lib.hid ((HA_v42.out.below HBx.out).more (HBx.out : Below v42.heap.size v42 v43).size)
          have HAb_v43 := Lib.hid (HAb_v42.out.past HBx.out)
          clear hgl hgegl hb HBx
          refine hK.out _ _ (fun _ => HSS.out _ HBv43.out) ?_
          clear hK K
          replace HInv := Lib.hid (inv_memE (i := 3) HInv.out (by kernel_rfl) (by decide))
          refine wpAnyG_one (i := 4) (by kernel_rfl) rfl rfl fun K hK => ?_
          go_simp
          have HBx := Lib.hid (show Below v43.heap.size v43 (v43.alloc (.cells #[.int .i64 (-1)] 3)) from pa pr)
          have HN_v44 := Lib.hid (show Blk (v43.alloc (.cells #[.int .i64 (-1)] 3)) v43.heap.size 3 #[.int .i64 (-1)] from Blk.newAt rfl)
          have hszv44 : v43.heap.size ≤ v43.heap.size := Nat.le_refl _
          obtain ⟨ad, had⟩ : ∃ q, q = v43.heap.size := ⟨_, rfl⟩
          rw [← had] at HN_v44
          have hgead : v43.heap.size ≤ ad := by rw [had]; exact Nat.le_refl _
          have lt_pp__ad : pp_ < ad := Nat.lt_of_lt_of_le HP_v43.out.lt hgead
          have lt_aa_ad : aa < ad := Nat.lt_of_lt_of_le HAb_v43.out.lt hgead
          have lt_gl_ad : gl < ad := Nat.lt_of_lt_of_le GL_v43.out.lt hgead
          have ge_ad : w1_.heap.size ≤ ad := Nat.le_trans HBv43.out.size hgead
          try rw [← had]
          clear had hszv44 hgead
          obtain ⟨v44, hv44⟩ : ∃ q : World, q = (v43.alloc (.cells #[.int .i64 (-1)] 3)) := ⟨_, rfl⟩
          rw [← hv44] at HBx HN_v44 ⊢
          clear hv44
          have HBv44 := Lib.hid (pt HBv43.out HBx.out)
          have HP_v44 := Lib.hid (HP_v43.out.past HBx.out)
          have HA_v44 := Lib.hid ((HA_v43.out.below HBx.out).more (HBx.out : Below v43.heap.size v43 v44).size)
          have HAb_v44 := Lib.hid (HAb_v43.out.past HBx.out)
          have GL_v44 := Lib.hid (GL_v43.out.past HBx.out)
          have HD_v44 := Lib.hid (show IntsIn v44.heap.size v44 (some ⟨ad, 0, none⟩) [-1] from intA_ints (l := [-1]) HN_v44.out)
          have HDb_v44 := HN_v44
          clear HBx
          refine hK.out _ _ (fun _ => HSS.out _ HBv44.out) ?_
          clear hK K
          replace HInv := Lib.hid (inv_oneE (i := 4) HInv.out (by kernel_rfl) (by decide))
          refine wpAnyG_one (i := 7) (by kernel_rfl) rfl rfl fun K hK => ?_
          go_simp
          refine (repeat_any _ (-1) _ 1 N v44 HD_v44.out (Nat.le_refl _) hN1 (by omega)).mono ?_
          rintro e v45 ⟨gh, rfl, hgh, hgegh, hb⟩
          have HBx := Lib.hid hb
          have GH_v45 := Lib.hid (show Blk v45 gh 3 (intA (List.replicate N (-1))) from hgh)
          have lt_pp__gh : pp_ < gh := Nat.lt_of_lt_of_le HP_v44.out.lt hgegh
          have lt_aa_gh : aa < gh := Nat.lt_of_lt_of_le HAb_v44.out.lt hgegh
          have lt_gl_gh : gl < gh := Nat.lt_of_lt_of_le GL_v44.out.lt hgegh
          have lt_ad_gh : ad < gh := Nat.lt_of_lt_of_le HDb_v44.out.lt hgegh
          have ge_gh : w1_.heap.size ≤ gh := Nat.le_trans HBv44.out.size hgegh
          have HBv45 := Lib.hid (pt HBv44.out hb)
          have HP_v45 := Lib.hid (HP_v44.out.past HBx.out)
          have HA_v45 := Lib.hid ((HA_v44.out.below HBx.out).more (HBx.out : Below v44.heap.size v44 v45).size)
          have HAb_v45 := Lib.hid (HAb_v44.out.past HBx.out)
          have GL_v45 := Lib.hid (GL_v44.out.past HBx.out)
          have HD_v45 := Lib.hid ((HD_v44.out.below HBx.out).more (HBx.out : Below v44.heap.size v44 v45).size)
          have HDb_v45 := Lib.hid (HDb_v44.out.past HBx.out)
          clear hgh hgegh hb HBx
          refine hK.out _ _ (fun _ => HSS.out _ HBv45.out) ?_
          clear hK K
          replace HInv := Lib.hid (inv_oneE (i := 7) HInv.out (by kernel_rfl) (by decide))
          have inv := HInv.out
          clear HInv
          have HSd := Lib.hid (HSS.out _ HBv45.out)
          refine wpAnyG_take (i := 8) (v := ?_) rfl (by kernel_rfl) (by kernel_rfl) (by kernel_rfl) (by kernel_rfl) (by kernel_rfl) (by decide) (by decide) inv (fun _ _ _ h => h) (Or.inl ⟨by rfl, ?_⟩) HSd.out ?_; rotate_left; (focus (intro W y1; obtain ⟨y1, y2⟩ := y1; go_simp; (first | done | with_reducible rfl))); clear inv; intro inv; simp only [List.getElem_toArray, List.getElem_cons_zero, List.getElem_cons_succ, Act.put, List.setIfInBounds_toArray, List.set_cons_zero, List.set_cons_succ]
          have HInv := Lib.hid inv
          clear inv HSd
          refine wpAnyG_one (i := 10) (by kernel_rfl) rfl rfl fun K hK => ?_
          refine store_op HP_v45.out (o := 0) (vs := #[.slice (some ⟨gl, 0, none⟩) N N, .slice (some ⟨gh, 0, none⟩) N N, .slice none 0 0]) (cs' := #[.slice (some ⟨gl, 0, none⟩) N N, .slice (some ⟨gh, 0, none⟩) N N, .slice none 0 0]) rfl rfl rfl (Nat.le_refl 3) forest_size (by simp [Value.oneCell']) fun v9 hv9 hp9 => ?_
          refine hK.out _ _ (fun h => absurd h (by decide)) ?_
          clear hK K
          refine wpAnyG_done (by kernel_rfl) ?_
          have HR := Lib.hid (show ForOk w1_.heap.size N pp_ gl gh v9 from ⟨hv9, GL_v45.out.put hp9 (by omega), GH_v45.out.put hp9 (by omega), ⟨ge_pp_, ge_gl, ge_gh⟩, by omega, by omega, by omega⟩)
          have HBe := Lib.hid (show Below w1_.heap.size w1_ v9 from HBv45.out.trans (hp9.below _ ge_pp_))
          go_wp2
          go_meet
          case rel => exact ⟨_, _, _, rfl, HR.out, HBe.out⟩
        · skip
          go_simp
          have HBx := Lib.hid (show Below v42.heap.size v42 (v42.alloc (.cells #[.int .i64 (-1)] 3)) from pa pr)
          have HN_v46 := Lib.hid (show Blk (v42.alloc (.cells #[.int .i64 (-1)] 3)) v42.heap.size 3 #[.int .i64 (-1)] from Blk.newAt rfl)
          have hszv46 : v42.heap.size ≤ v42.heap.size := Nat.le_refl _
          obtain ⟨ad, had⟩ : ∃ q, q = v42.heap.size := ⟨_, rfl⟩
          rw [← had] at HN_v46
          have hgead : v42.heap.size ≤ ad := by rw [had]; exact Nat.le_refl _
          have lt_pp__ad : pp_ < ad := Nat.lt_of_lt_of_le HP_v42.out.lt hgead
          have lt_aa_ad : aa < ad := Nat.lt_of_lt_of_le HAb_v42.out.lt hgead
          have ge_ad : w1_.heap.size ≤ ad := Nat.le_trans HBv42.out.size hgead
          try rw [← had]
          clear had hszv46 hgead
          obtain ⟨v46, hv46⟩ : ∃ q : World, q = (v42.alloc (.cells #[.int .i64 (-1)] 3)) := ⟨_, rfl⟩
          rw [← hv46] at HBx HN_v46 ⊢
          clear hv46
          have HBv46 := Lib.hid (pt HBv42.out HBx.out)
          have HP_v46 := Lib.hid (HP_v42.out.past HBx.out)
          have HA_v46 := Lib.hid ((HA_v42.out.below HBx.out).more (HBx.out : Below v42.heap.size v42 v46).size)
          have HAb_v46 := Lib.hid (HAb_v42.out.past HBx.out)
          have HD_v46 := Lib.hid (show IntsIn v46.heap.size v46 (some ⟨ad, 0, none⟩) [-1] from intA_ints (l := [-1]) HN_v46.out)
          have HDb_v46 := HN_v46
          clear HBx
          refine hK.out _ _ (fun _ => HSS.out _ HBv46.out) ?_
          clear hK K
          replace HInv := Lib.hid (inv_memE (i := 4) HInv.out (by kernel_rfl) (by decide))
          refine wpAnyG_one (i := 3) (by kernel_rfl) rfl rfl fun K hK => ?_
          go_simp
          refine (repeat_any _ (-1) _ 1 N v46 HA_v46.out (Nat.le_refl _) hN1 (by omega)).mono ?_
          rintro e v47 ⟨gl, rfl, hgl, hgegl, hb⟩
          have HBx := Lib.hid hb
          have GL_v47 := Lib.hid (show Blk v47 gl 3 (intA (List.replicate N (-1))) from hgl)
          have lt_pp__gl : pp_ < gl := Nat.lt_of_lt_of_le HP_v46.out.lt hgegl
          have lt_aa_gl : aa < gl := Nat.lt_of_lt_of_le HAb_v46.out.lt hgegl
          have lt_ad_gl : ad < gl := Nat.lt_of_lt_of_le HDb_v46.out.lt hgegl
          have ge_gl : w1_.heap.size ≤ gl := Nat.le_trans HBv46.out.size hgegl
          have HBv47 := Lib.hid (pt HBv46.out hb)
          have HP_v47 := Lib.hid (HP_v46.out.past HBx.out)
          have HA_v47 := Lib.hid ((HA_v46.out.below HBx.out).more (HBx.out : Below v46.heap.size v46 v47).size)
          have HAb_v47 := Lib.hid (HAb_v46.out.past HBx.out)
          have HD_v47 := Lib.hid ((HD_v46.out.below HBx.out).more (HBx.out : Below v46.heap.size v46 v47).size)
          have HDb_v47 := Lib.hid (HDb_v46.out.past HBx.out)
          clear hgl hgegl hb HBx
          refine hK.out _ _ (fun _ => HSS.out _ HBv47.out) ?_
          clear hK K
          replace HInv := Lib.hid (inv_oneE (i := 3) HInv.out (by kernel_rfl) (by decide))
          refine wpAnyG_one (i := 7) (by kernel_rfl) rfl rfl fun K hK => ?_
          go_simp
          refine (repeat_any _ (-1) _ 1 N v47 HD_v47.out (Nat.le_refl _) hN1 (by omega)).mono ?_
          rintro e v48 ⟨gh, rfl, hgh, hgegh, hb⟩
          have HBx := Lib.hid hb
          have GH_v48 := Lib.hid (show Blk v48 gh 3 (intA (List.replicate N (-1))) from hgh)
          have lt_pp__gh : pp_ < gh := Nat.lt_of_lt_of_le HP_v47.out.lt hgegh
          have lt_aa_gh : aa < gh := Nat.lt_of_lt_of_le HAb_v47.out.lt hgegh
          have lt_ad_gh : ad < gh := Nat.lt_of_lt_of_le HDb_v47.out.lt hgegh
          have lt_gl_gh : gl < gh := Nat.lt_of_lt_of_le GL_v47.out.lt hgegh
          have ge_gh : w1_.heap.size ≤ gh := Nat.le_trans HBv47.out.size hgegh
          have HBv48 := Lib.hid (pt HBv47.out hb)
          have HP_v48 := Lib.hid (HP_v47.out.past HBx.out)
          have HA_v48 := Lib.hid ((HA_v47.out.below HBx.out).more (HBx.out : Below v47.heap.size v47 v48).size)
          have HAb_v48 := Lib.hid (HAb_v47.out.past HBx.out)
          have HD_v48 := Lib.hid ((HD_v47.out.below HBx.out).more (HBx.out : Below v47.heap.size v47 v48).size)
          have HDb_v48 := Lib.hid (HDb_v47.out.past HBx.out)
          have GL_v48 := Lib.hid (GL_v47.out.past HBx.out)
          clear hgh hgegh hb HBx
          refine hK.out _ _ (fun _ => HSS.out _ HBv48.out) ?_
          clear hK K
          replace HInv := Lib.hid (inv_oneE (i := 7) HInv.out (by kernel_rfl) (by decide))
          have inv := HInv.out
          clear HInv
          have HSd := Lib.hid (HSS.out _ HBv48.out)
          refine wpAnyG_take (i := 8) (v := ?_) rfl (by kernel_rfl) (by kernel_rfl) (by kernel_rfl) (by kernel_rfl) (by kernel_rfl) (by decide) (by decide) inv (fun _ _ _ h => h) (Or.inl ⟨by rfl, ?_⟩) HSd.out ?_; rotate_left; (focus (intro W y1; obtain ⟨y1, y2⟩ := y1; go_simp; (first | done | with_reducible rfl))); clear inv; intro inv; simp only [List.getElem_toArray, List.getElem_cons_zero, List.getElem_cons_succ, Act.put, List.setIfInBounds_toArray, List.set_cons_zero, List.set_cons_succ]
          have HInv := Lib.hid inv
          clear inv HSd
          refine wpAnyG_one (i := 10) (by kernel_rfl) rfl rfl fun K hK => ?_
          refine store_op HP_v48.out (o := 0) (vs := #[.slice (some ⟨gl, 0, none⟩) N N, .slice (some ⟨gh, 0, none⟩) N N, .slice none 0 0]) (cs' := #[.slice (some ⟨gl, 0, none⟩) N N, .slice (some ⟨gh, 0, none⟩) N N, .slice none 0 0]) rfl rfl rfl (Nat.le_refl 3) forest_size (by simp [Value.oneCell']) fun v9 hv9 hp9 => ?_
          refine hK.out _ _ (fun h => absurd h (by decide)) ?_
          clear hK K
          refine wpAnyG_done (by kernel_rfl) ?_
          have HR := Lib.hid (show ForOk w1_.heap.size N pp_ gl gh v9 from ⟨hv9, GL_v48.out.put hp9 (by omega), GH_v48.out.put hp9 (by omega), ⟨ge_pp_, ge_gl, ge_gh⟩, by omega, by omega, by omega⟩)
          have HBe := Lib.hid (show Below w1_.heap.size w1_ v9 from HBv48.out.trans (hp9.below _ ge_pp_))
          go_wp2
          go_meet
          case rel => exact ⟨_, _, _, rfl, HR.out, HBe.out⟩
      · skip
        go_simp
        have HBx := Lib.hid (show Below v41.heap.size v41 (v41.alloc (.cells #[.int .i64 (-1)] 3)) from pa pr)
        have HN_v49 := Lib.hid (show Blk (v41.alloc (.cells #[.int .i64 (-1)] 3)) v41.heap.size 3 #[.int .i64 (-1)] from Blk.newAt rfl)
        have hszv49 : v41.heap.size ≤ v41.heap.size := Nat.le_refl _
        obtain ⟨ad, had⟩ : ∃ q, q = v41.heap.size := ⟨_, rfl⟩
        rw [← had] at HN_v49
        have hgead : v41.heap.size ≤ ad := by rw [had]; exact Nat.le_refl _
        have lt_pp__ad : pp_ < ad := Nat.lt_of_lt_of_le HP_v41.out.lt hgead
        have ge_ad : w1_.heap.size ≤ ad := Nat.le_trans HBv41.out.size hgead
        try rw [← had]
        clear had hszv49 hgead
        obtain ⟨v49, hv49⟩ : ∃ q : World, q = (v41.alloc (.cells #[.int .i64 (-1)] 3)) := ⟨_, rfl⟩
        rw [← hv49] at HBx HN_v49 ⊢
        clear hv49
        have HBv49 := Lib.hid (pt HBv41.out HBx.out)
        have HP_v49 := Lib.hid (HP_v41.out.past HBx.out)
        have HD_v49 := Lib.hid (show IntsIn v49.heap.size v49 (some ⟨ad, 0, none⟩) [-1] from intA_ints (l := [-1]) HN_v49.out)
        have HDb_v49 := HN_v49
        clear HBx
        refine hK.out _ _ (fun _ => HSS.out _ HBv49.out) ?_
        clear hK K
        replace HInv := Lib.hid (inv_memE (i := 4) HInv.out (by kernel_rfl) (by decide))
        refine wpAnyG_one (i := 0) (by kernel_rfl) rfl rfl fun K hK => ?_
        go_simp
        have HBx := Lib.hid (show Below v49.heap.size v49 (v49.alloc (.cells #[.int .i64 (-1)] 3)) from pa pr)
        have HN_v50 := Lib.hid (show Blk (v49.alloc (.cells #[.int .i64 (-1)] 3)) v49.heap.size 3 #[.int .i64 (-1)] from Blk.newAt rfl)
        have hszv50 : v49.heap.size ≤ v49.heap.size := Nat.le_refl _
        obtain ⟨aa, haa⟩ : ∃ q, q = v49.heap.size := ⟨_, rfl⟩
        rw [← haa] at HN_v50
        have hgeaa : v49.heap.size ≤ aa := by rw [haa]; exact Nat.le_refl _
        have lt_pp__aa : pp_ < aa := Nat.lt_of_lt_of_le HP_v49.out.lt hgeaa
        have lt_ad_aa : ad < aa := Nat.lt_of_lt_of_le HDb_v49.out.lt hgeaa
        have ge_aa : w1_.heap.size ≤ aa := Nat.le_trans HBv49.out.size hgeaa
        try rw [← haa]
        clear haa hszv50 hgeaa
        obtain ⟨v50, hv50⟩ : ∃ q : World, q = (v49.alloc (.cells #[.int .i64 (-1)] 3)) := ⟨_, rfl⟩
        rw [← hv50] at HBx HN_v50 ⊢
        clear hv50
        have HBv50 := Lib.hid (pt HBv49.out HBx.out)
        have HP_v50 := Lib.hid (HP_v49.out.past HBx.out)
        have HD_v50 := Lib.hid ((HD_v49.out.below HBx.out).more (HBx.out : Below v49.heap.size v49 v50).size)
        have HDb_v50 := Lib.hid (HDb_v49.out.past HBx.out)
        have HA_v50 := Lib.hid (show IntsIn v50.heap.size v50 (some ⟨aa, 0, none⟩) [-1] from intA_ints (l := [-1]) HN_v50.out)
        have HAb_v50 := HN_v50
        clear HBx
        refine hK.out _ _ (fun _ => HSS.out _ HBv50.out) ?_
        clear hK K
        replace HInv := Lib.hid (inv_oneE (i := 0) HInv.out (by kernel_rfl) (by decide))
        refine wpAnyG_one (i := 3) (by kernel_rfl) rfl rfl fun K hK => ?_
        go_simp
        refine (repeat_any _ (-1) _ 1 N v50 HA_v50.out (Nat.le_refl _) hN1 (by omega)).mono ?_
        rintro e v51 ⟨gl, rfl, hgl, hgegl, hb⟩
        have HBx := Lib.hid hb
        have GL_v51 := Lib.hid (show Blk v51 gl 3 (intA (List.replicate N (-1))) from hgl)
        have lt_pp__gl : pp_ < gl := Nat.lt_of_lt_of_le HP_v50.out.lt hgegl
        have lt_ad_gl : ad < gl := Nat.lt_of_lt_of_le HDb_v50.out.lt hgegl
        have lt_aa_gl : aa < gl := Nat.lt_of_lt_of_le HAb_v50.out.lt hgegl
        have ge_gl : w1_.heap.size ≤ gl := Nat.le_trans HBv50.out.size hgegl
        have HBv51 := Lib.hid (pt HBv50.out hb)
        have HP_v51 := Lib.hid (HP_v50.out.past HBx.out)
        have HD_v51 := Lib.hid ((HD_v50.out.below HBx.out).more (HBx.out : Below v50.heap.size v50 v51).size)
        have HDb_v51 := Lib.hid (HDb_v50.out.past HBx.out)
        have HA_v51 := Lib.hid ((HA_v50.out.below HBx.out).more (HBx.out : Below v50.heap.size v50 v51).size)
        have HAb_v51 := Lib.hid (HAb_v50.out.past HBx.out)
        clear hgl hgegl hb HBx
        refine hK.out _ _ (fun _ => HSS.out _ HBv51.out) ?_
        clear hK K
        replace HInv := Lib.hid (inv_oneE (i := 3) HInv.out (by kernel_rfl) (by decide))
        refine wpAnyG_one (i := 7) (by kernel_rfl) rfl rfl fun K hK => ?_
        go_simp
        refine (repeat_any _ (-1) _ 1 N v51 HD_v51.out (Nat.le_refl _) hN1 (by omega)).mono ?_
        rintro e v52 ⟨gh, rfl, hgh, hgegh, hb⟩
        have HBx := Lib.hid hb
        have GH_v52 := Lib.hid (show Blk v52 gh 3 (intA (List.replicate N (-1))) from hgh)
        have lt_pp__gh : pp_ < gh := Nat.lt_of_lt_of_le HP_v51.out.lt hgegh
        have lt_ad_gh : ad < gh := Nat.lt_of_lt_of_le HDb_v51.out.lt hgegh
        have lt_aa_gh : aa < gh := Nat.lt_of_lt_of_le HAb_v51.out.lt hgegh
        have lt_gl_gh : gl < gh := Nat.lt_of_lt_of_le GL_v51.out.lt hgegh
        have ge_gh : w1_.heap.size ≤ gh := Nat.le_trans HBv51.out.size hgegh
        have HBv52 := Lib.hid (pt HBv51.out hb)
        have HP_v52 := Lib.hid (HP_v51.out.past HBx.out)
        have HD_v52 := Lib.hid ((HD_v51.out.below HBx.out).more (HBx.out : Below v51.heap.size v51 v52).size)
        have HDb_v52 := Lib.hid (HDb_v51.out.past HBx.out)
        have HA_v52 := Lib.hid ((HA_v51.out.below HBx.out).more (HBx.out : Below v51.heap.size v51 v52).size)
        have HAb_v52 := Lib.hid (HAb_v51.out.past HBx.out)
        have GL_v52 := Lib.hid (GL_v51.out.past HBx.out)
        clear hgh hgegh hb HBx
        refine hK.out _ _ (fun _ => HSS.out _ HBv52.out) ?_
        clear hK K
        replace HInv := Lib.hid (inv_oneE (i := 7) HInv.out (by kernel_rfl) (by decide))
        have inv := HInv.out
        clear HInv
        have HSd := Lib.hid (HSS.out _ HBv52.out)
        refine wpAnyG_take (i := 8) (v := ?_) rfl (by kernel_rfl) (by kernel_rfl) (by kernel_rfl) (by kernel_rfl) (by kernel_rfl) (by decide) (by decide) inv (fun _ _ _ h => h) (Or.inl ⟨by rfl, ?_⟩) HSd.out ?_; rotate_left; (focus (intro W y1; obtain ⟨y1, y2⟩ := y1; go_simp; (first | done | with_reducible rfl))); clear inv; intro inv; simp only [List.getElem_toArray, List.getElem_cons_zero, List.getElem_cons_succ, Act.put, List.setIfInBounds_toArray, List.set_cons_zero, List.set_cons_succ]
        have HInv := Lib.hid inv
        clear inv HSd
        refine wpAnyG_one (i := 10) (by kernel_rfl) rfl rfl fun K hK => ?_
        refine store_op HP_v52.out (o := 0) (vs := #[.slice (some ⟨gl, 0, none⟩) N N, .slice (some ⟨gh, 0, none⟩) N N, .slice none 0 0]) (cs' := #[.slice (some ⟨gl, 0, none⟩) N N, .slice (some ⟨gh, 0, none⟩) N N, .slice none 0 0]) rfl rfl rfl (Nat.le_refl 3) forest_size (by simp [Value.oneCell']) fun v9 hv9 hp9 => ?_
        refine hK.out _ _ (fun h => absurd h (by decide)) ?_
        clear hK K
        refine wpAnyG_done (by kernel_rfl) ?_
        have HR := Lib.hid (show ForOk w1_.heap.size N pp_ gl gh v9 from ⟨hv9, GL_v52.out.put hp9 (by omega), GH_v52.out.put hp9 (by omega), ⟨ge_pp_, ge_gl, ge_gh⟩, by omega, by omega, by omega⟩)
        have HBe := Lib.hid (show Below w1_.heap.size w1_ v9 from HBv52.out.trans (hp9.below _ ge_pp_))
        go_wp2
        go_meet
        case rel => exact ⟨_, _, _, rfl, HR.out, HBe.out⟩
  case rest =>
    obtain ⟨p, gl, gh, rfl, hfo, hbc⟩ := hcut
    obtain ⟨wk, hwk⟩ : ∃ wk : World, wk = wc := ⟨_, rfl⟩
    subst hwk
    have HFo := Lib.hid hfo
    have HBc := Lib.hid hbc
    obtain ⟨⟨g0, g1, g2⟩, g3, g4, g5⟩ := (show (w1_.heap.size ≤ p ∧ w1_.heap.size ≤ gl ∧ w1_.heap.size ≤ gh) ∧ p ≠ gl ∧ p ≠ gh ∧ gl ≠ gh from ⟨hfo.ge, hfo.n1, hfo.n2, hfo.n3⟩)
    have hp := hfo.blk.lt
    have hgl := hfo.low.lt
    have hgh := hfo.hangs.lt
    have Rk := Lib.hid (R0.out.past hbc)
    have x0 := Rk.out.cellAt 0 rfl
    have xl := Rk.out.lt
    have hw1 := HB0.out.size
    have hwl : w.heap.size < w1_.heap.size := R0.out.lt
    have HF0 := Lib.hid (show FstIn wk.heap.size p gl gh N (rootsTo bs N 0) wk from ⟨⟨.slice none 0 0, hfo.blk, World.ownsRow_nil _ _ _ _⟩, hfo.low, hfo.hangs⟩)
    obtain ⟨j0, hj0, hjz, hjs, hjb⟩ := info_of (show (Try.prog.info? 3).map (fun i => (i.zero, i.size, i.bytes)) = some (some (.int .i64 0), 1, 8) by kernel_rfl)
    have HBk := Lib.hid (show ∀ W, Below w1_.heap.size wk W → Below w1_.heap.size w1_ W from fun W hW => hbc.trans hW)
    clear hfo hbc
    go_wp2
    clear x0 xl
    go_loopw [17] (fun rv wr => ∃ r : Nat, rv = .int .i64 (r : Int) ∧ r ≤ N ∧ FstIn wk.heap.size p gl gh N (rootsTo bs N r) wr ∧ Below w1_.heap.size w1_ wr ∧ wk.heap.size ≤ wr.heap.size) (fun rv _ => N - (intOf rv).toNat)
    case atStart => exact ⟨0, rfl, Nat.zero_le _, HF0.out, HBc.out, Nat.le_refl _⟩
    case round =>
      clear HF0
      obtain ⟨r, rfl, hr, hf, hq, hs⟩ := hrel
      have HF := Lib.hid hf
      have HQ := Lib.hid hq
      clear hf hq
      by_cases hlt : r < N
      · have ok := rootsTo_ok HOk.out (k := r) (Nat.le_of_lt hlt)
        have HNx := Lib.hid (show rootsTo bs N (r + 1) = rootStep bs N r (rootsTo bs N r) from rfl)
        have HSt := Lib.hid (show rootStep bs N r (rootsTo bs N r) = if (rootsTo bs N r).low.getD r 0 ≠ -1 then rootsTo bs N r else queueV bs N (rootsTo bs N r).order.length ⟨(rootsTo bs N r).low.set r (r : Int), (rootsTo bs N r).hangs, (rootsTo bs N r).order ++ [r]⟩ from rfl)
        have HR1 := Lib.hid (fun h0 => ok.root hlt h0)
        generalize rootsTo bs N r = t at *
        obtain ⟨AO, cO, hpb, hown⟩ := fst_order HF.out
        have HPb := Lib.hid hpb
        have HOw := Lib.hid hown
        have lc := intA_cell HF.out.low (show r < t.low.length by rw [ok.ll]; exact hlt)
        have ll := HF.out.low.lt
        have lf := HF.out.low.frozen r
        have p0 := hpb.cellAt 0 rfl
        have p2 := hpb.cellAt 2 rfl
        have pf2 := hpb.frozen 2
        have pl := hpb.lt
        have r0 : (0 : Int) ≤ (r : Int) := by omega
        have r1 : (r : Int) < (N : Int) := by omega
        have hol : t.order.length ≤ 5 := Nat.le_trans ok.len hN5
        have HOk2 := Lib.hid ok
        clear hpb hown ok
        by_cases h0 : t.low.getD r 0 = -1
        · have HE := Lib.hid (show rootsTo bs N (r + 1) = queueV bs N t.order.length ⟨t.low.set r (r : Int), t.hangs, t.order ++ [r]⟩ by rw [HNx.out, HSt.out, if_neg (by simpa using h0)])
          have HOk3 := Lib.hid (HR1.out h0)
          rw [h0] at lc
          clear h0 HNx HSt HR1
          have HP1 := Lib.hid (show Blk (wr.setCell ⟨gl, r, none⟩ (.int .i64 (r : Int))) p 103 #[.slice (some ⟨gl, 0, none⟩) N N, .slice (some ⟨gh, 0, none⟩) N N, .slice AO t.order.length cO] from HPb.out.far (p := ⟨gl, r, none⟩) (by dsimp only; omega))
          have HL1 := Lib.hid (show Blk (wr.setCell ⟨gl, r, none⟩ (.int .i64 (r : Int))) gl 3 (intA (t.low.set r (r : Int))) from intA_set HF.out.low r (r : Int))
          have HH1 := Lib.hid (show Blk (wr.setCell ⟨gl, r, none⟩ (.int .i64 (r : Int))) gh 3 (intA t.hangs) from HF.out.hangs.far (p := ⟨gl, r, none⟩) (by dsimp only; omega))
          have HO1 := Lib.hid (ownFar HOw.out (q := ⟨gl, r, none⟩) (by dsimp only; omega) (.int .i64 (r : Int)))
          have HB1 := Lib.hid (show Below w1_.heap.size w1_ (wr.setCell ⟨gl, r, none⟩ (.int .i64 (r : Int))) from HQ.out.setCell (p := ⟨gl, r, none⟩) g1 _)
          have hs1 : wk.heap.size ≤ (wr.setCell ⟨gl, r, none⟩ (.int .i64 (r : Int))).heap.size := by simpa using hs
          have HAl := Lib.hid (show Below (wr.setCell ⟨gl, r, none⟩ (.int .i64 (r : Int))).heap.size (wr.setCell ⟨gl, r, none⟩ (.int .i64 (r : Int))) ((wr.setCell ⟨gl, r, none⟩ (.int .i64 (r : Int))).alloc (.cells #[.int .i64 (r : Int)] 3)) from pa pr)
          have HOa := Lib.hid (ownPast HAl.out HO1.out)
          have HCa := Lib.hid (cells_newO (wr.setCell ⟨gl, r, none⟩ (.int .i64 (r : Int))) 3 #[.int .i64 (r : Int)])
          have hsz : (wr.setCell ⟨gl, r, none⟩ (.int .i64 (r : Int))).heap.size = wr.heap.size := by simp
          rw [hsz] at HCa
          clear hsz
          go_wp2_with (at_builtin; go_must (refine wpList_append_cells _ rfl (.tmp 35) (.tmp 37) _ rfl wk.heap.size 3 j0 _ 1 8 Try.underlying42 hj0 hjz hjs hjb rfl (by omega) (.slice AO t.order.length cO) t.order.length (t.order.map (fun (k : Nat) => Value.int .i64 (k : Int))) rfl HOa.out _ _ 1 1 [.int .i64 (r : Int)] rfl HCa.out rfl (by simp [Value.oneCell']) (by simp only [maxLen]; omega) (by omega) (by simp; omega) ?_); intro v4 w4 hown4 hg4 _; obtain ⟨A4, c4, rfl, hc4, _⟩ := own_form hown4; have HP4 := Lib.hid ((HP1.out.past HAl.out).grown hg4 (fun e => by have := (HOa.out.lt p e.symm).1; omega)); have HL4 := Lib.hid ((HL1.out.past HAl.out).grown hg4 (fun e => by have := (HOa.out.lt gl e.symm).1; omega)); have HH4 := Lib.hid ((HH1.out.past HAl.out).grown hg4 (fun e => by have := (HOa.out.lt gh e.symm).1; omega)); have HB4 := Lib.hid ((HB1.out.trans (HAl.out.mono HB1.out.size)).grown hg4 (by have := HB1.out.size; have := HAl.out.size; omega) (fun q hq => by have := (HOa.out.lt q hq).1; omega)); have HO4 := Lib.hid hown4; have HS4 := Lib.hid (Nat.le_trans hs1 (Nat.le_trans HAl.out.size hg4.size)); clear p0 p2 pf2 pl lc ll lf hown4 hg4; have p2 := HP4.out.cellAt 2 rfl; have pf := HP4.out.frozen 2; have pl := HP4.out.lt)
          have HF5 := Lib.hid (show FstIn wk.heap.size p gl gh N ⟨t.low.set r (r : Int), t.hangs, t.order ++ [r]⟩ (w4.setCell ⟨p, 2, none⟩ (.slice A4 (t.order.length + 1) c4)) from by
            refine ⟨⟨.slice A4 (t.order.length + 1) c4, by simpa using HP4.out.set_ 2 (.slice A4 (t.order.length + 1) c4), ?_⟩, HL4.out.far (p := ⟨p, 2, none⟩) (by dsimp only; omega), HH4.out.far (p := ⟨p, 2, none⟩) (by dsimp only; omega)⟩
            have h := ownFar HO4.out (q := ⟨p, 2, none⟩) (by dsimp only; omega) (.slice A4 (t.order.length + 1) c4)
            dsimp only
            rw [List.length_append, List.length_singleton, List.map_append]
            exact h)
          have HB5 := Lib.hid (show Below w1_.heap.size w1_ (w4.setCell ⟨p, 2, none⟩ (.slice A4 (t.order.length + 1) c4)) from HB4.out.setCell (p := ⟨p, 2, none⟩) g0 _)
          have HS5 := Lib.hid (show wk.heap.size ≤ (w4.setCell ⟨p, 2, none⟩ (.slice A4 (t.order.length + 1) c4)).heap.size from by simpa using HS4.out)
          clear p2 pf pl HP4 HL4 HH4 HB4 HO4 HS4 HP1 HL1 HH1 HO1 HB1 hs1 HAl HOa HCa HPb HOw
          generalize (w4.setCell ⟨p, 2, none⟩ (.slice A4 (t.order.length + 1) c4)) = w5 at *
          have HLn := Lib.hid (show t.order.length ≤ (⟨t.low.set r (r : Int), t.hangs, t.order ++ [r]⟩ : Fst).order.length by simp)
          generalize (⟨t.low.set r (r : Int), t.hangs, t.order ++ [r]⟩ : Fst) = t1 at *
          generalize t.order.length = k0 at *
          go_loopw [5] (fun kv wr2 => ∃ (f k : Nat) (s' : Fst), kv = .int .i64 (k : Int) ∧ queueV bs N k0 t1 = queueV bs f k s' ∧ N ≤ f + k ∧ k ≤ s'.order.length ∧ FstOk N bs s' ∧ FstIn wk.heap.size p gl gh N s' wr2 ∧ Below w1_.heap.size w1_ wr2 ∧ wk.heap.size ≤ wr2.heap.size) (fun kv _ => N - (intOf kv).toNat)
          case atStart => exact ⟨N, k0, t1, rfl, rfl, Nat.le_add_right _ _, HLn.out, HOk3.out, HF5.out, HB5.out, HS5.out⟩
          case round =>
            clear HF5 HB5 HS5 HLn HOk3
            obtain ⟨f, k, s', rfl, hqv, hfk, hkl, hok', hf', hq', hs'⟩ := hrel
            have HQv := Lib.hid hqv
            have HOk4 := Lib.hid hok'
            have HF6 := Lib.hid hf'
            have HQ6 := Lib.hid hq'
            obtain ⟨AO', cO', hpb', hown'⟩ := fst_order hf'
            have p2 := hpb'.cellAt 2 rfl
            have pl := hpb'.lt
            have Rr := Lib.hid (R0.out.past hq')
            have x0 := Rr.out.cellAt 0 rfl
            have x1 := Rr.out.cellAt 1 rfl
            have xl := Rr.out.lt
            have hlen := hok'.len
            by_cases hk2 : k < s'.order.length
            · obtain ⟨f2, hf2⟩ : ∃ f2, f = f2 + 1 := ⟨f - 1, by omega⟩
              have hfk2 : N ≤ f2 + (k + 1) := by omega
              have HE2 := Lib.hid (show queueV bs N k0 t1 = queueV bs f2 (k + 1) (growV bs (s'.order.getD k 0) s') by rw [hqv, hf2, queueV, if_pos hk2])
              have hmem : s'.order.getD k 0 ∈ s'.order := by
                rw [List.getD_eq_getElem?_getD, List.getElem?_eq_getElem hk2]
                exact List.getElem_mem hk2
              have HOk5 := Lib.hid (growTo_ok HOk.out hok' hmem (Nat.le_refl _))
              have HLn5 := Lib.hid (show k + 1 ≤ (growV bs (s'.order.getD k 0) s').order.length from Nat.le_trans hk2 (growTo_pre bs (s'.order.getD k 0) s' bs.length).length_le)
              have HGw := Lib.hid (fun W (hW : Below wr.heap.size wr W) => grow_any B w1_.heap.size wk.heap.size p gl gh N bs A n c s' (s'.order.getD k 0) W HOk.out HOk4.out (HF6.out.past hW) (HX.out W (HB0.out.trans ((HQ6.out.trans (hW.mono (Nat.le_trans HQ6.out.size (Nat.le_refl _)))).mono hw1))) (Nat.le_trans hB hw1) ⟨⟨by omega, by omega, by omega⟩, ⟨hp, hgl, hgh⟩, g3, g4, g5⟩ (by have := hW.size; omega) (by have := hW.size; omega) HN.out hmem)
              have hcell : ∃ b off, AO' = some ⟨b, off, none⟩ ∧ b < wr.heap.size ∧ wr.cell? ⟨b, off + k, none⟩ = some (.int .i64 ((s'.order.getD k 0 : Nat) : Int)) := by
                rcases cellsIn_of_own hown' with h | ⟨b, off, h1, h2, h3⟩
                · have := congrArg List.length h
                  simp at this
                  rw [this] at hk2
                  simp at hk2
                · refine ⟨b, off, h1, h2, (h3 k (by simpa using hk2)).trans ?_⟩
                  simp [List.getD, hk2]
              obtain ⟨bo, oo, rfl, hbo, hco⟩ := hcell
              have q0 : (0 : Int) ≤ (k : Int) := by omega
              have q1 : (k : Int) < (s'.order.length : Int) := by omega
              clear hqv hok' hf' hq' hpb' hown' hmem hf2 HQv
              generalize s'.order.getD k 0 = nd at *
              generalize s'.order.length = ol at *
              go_wp2
              refine region_below 6 follows_mixed (by kernel_rfl) ?_
              intro C hC
              simp only [List.take_succ_cons, List.take_zero, List.drop_succ_cons, List.drop_zero]
              repeat (first
                | ((with_reducible refine quiet_plain rfl (fun K hK => ?_)); (focus (apply quiet_val; (focus (intro w' hw; obtain ⟨hcq, hfq⟩ := bcell ((hC.out _).1 hw); go_simp; (first | done | rfl))); (simp only [Act.put, List.setIfInBounds_toArray, List.set_cons_succ, List.set_cons_zero]); (with_reducible refine hK _ ?_); clear hK K)))
                | ((with_reducible refine quiet_skip ?_ ?_); (focus (first | (simp [Region.wanted, yielded]; done) | (simp [Region.wanted, yielded, undef]; done))); simp only [Act.put, List.setIfInBounds_toArray, List.set_cons_succ, List.set_cons_zero])
                | ((with_reducible refine quiet_go ?_ (fun K hK => ?_)); (focus (first | (simp [Region.wanted, yielded]; done) | (simp [Region.wanted, yielded, undef]; done))); (focus (apply quiet_val; (focus (intro w' hw; obtain ⟨hcq, hfq⟩ := bcell ((hC.out _).1 hw); go_simp; (first | done | rfl))); (simp only [Act.put, List.setIfInBounds_toArray, List.set_cons_succ, List.set_cons_zero]); (with_reducible refine hK _ ?_); clear hK K))))
              refine wpQuiet_nil ?_
              intro w1 hb1
              replace hb1 := (hC.out _).1 hb1
              clear hC C
              obtain ⟨hc1, hf1⟩ := bcell hb1
              have HGx := Lib.hid (HGw.out w1 hb1)
              have HQ7 := Lib.hid (HQ6.out.trans (hb1.mono HQ6.out.size))
              have hs7 : wk.heap.size ≤ w1.heap.size := Nat.le_trans hs' hb1.size
              clear hc1 hf1 hb1 HGw
              go_wp2_with (go_at_call 65; (with_reducible refine HGx.out.mono ?_); rintro e w8 ⟨rfl, hf8, hb8⟩; have HF8 := Lib.hid hf8; have HQ8 := Lib.hid hb8; clear hf8 hb8)
              go_roundw
              case rel => exact ⟨f2, k + 1, _, by go_num, HE2.out, by omega, HLn5.out, HOk5.out, HF8.out, HQ7.out.trans HQ8.out, Nat.le_trans hs7 HQ8.out.size⟩
              case measure => simp [intOf]; omega
            · have HE2 := Lib.hid (show queueV bs N k0 t1 = s' by
                rw [hqv]
                cases f with
                | zero => rfl
                | succ f => rw [queueV, if_neg hk2])
              have hkn : ¬ (k : Int) < (s'.order.length : Int) := by omega
              clear hqv hok' hf' hq' hpb' hown' HQv
              go_wp2
              go_roundw
              case rel => exact ⟨r + 1, by go_num, by omega, by rw [HE.out, HE2.out]; exact HF6.out, HQ6.out, hs'⟩
              case measure => simp [intOf]; omega
        · have z3 : (t.low.getD r 0 != -1) = true := by simpa using h0
          have HE := Lib.hid (show rootsTo bs N (r + 1) = t by rw [HNx.out, HSt.out, if_pos (by simpa using h0)])
          generalize t.low.getD r 0 = lv at *
          clear h0
          go_wp2
          go_roundw
          case rel => exact ⟨r + 1, by go_num, by omega, by rw [HE.out]; exact HF.out, HQ.out, hs⟩
          case measure => simp [intOf]; omega
      · have hre : r = N := by omega
        subst hre
        obtain ⟨AO, cO, hpb, hown⟩ := fst_order HF.out
        have Z := Lib.hid (Z0.out.below HQ.out Z0.out.lt)
        have p0 := hpb.cellAt 0 rfl
        have p1 := hpb.cellAt 1 rfl
        have p2 := hpb.cellAt 2 rfl
        have pl := hpb.lt
        have zl := Z.out.lt
        have HOi := Lib.hid hown
        have hzp := Z0.out.lt
        clear hpb hown
        have HFl := Lib.hid HF.out
        go_wp2_with ((with_reducible refine store_blk (T := 103) (x := .tmp 2) (y := .tmp 55) (vs := #[.slice (some ⟨gl, 0, none⟩) r r, .slice (some ⟨gh, 0, none⟩) r r, .slice AO (rootsTo bs r r).order.length cO]) Z.out ?_ ?_ ?_ ?_ ?_ ?_); (focus rfl); (focus exact forest_size); (focus (simp [Value.oneCell']; done)); (focus (first | rfl | (go_simp; done))); (focus (first | rfl | (go_simp; done))); intro WF_ RF PF)
        have r0 := RF.cellAt 0 rfl
        have r1 := RF.cellAt 1 rfl
        have r2 := RF.cellAt 2 rfl
        refine bodyPost_ret (v := .agg #[.slice (some ⟨gl, 0, none⟩) r r, .slice (some ⟨gh, 0, none⟩) r r, .slice AO (rootsTo bs r r).order.length cO]) (by simp [results, Try.results51, go_sem, r0, r1, r2]) rfl ?_
        refine ⟨gl, gh, AO, cO, rfl, HF.out.low.put PF (by omega), HF.out.hangs.put PF (by omega), ?_, ⟨by omega, by omega, g5⟩, pp (pt HB0.out HQ.out) PF (by omega)⟩
        exact ints_own (ownPut HOi.out PF (by omega))
end Go.Proofs.Ytapegimghfflhaa
end
