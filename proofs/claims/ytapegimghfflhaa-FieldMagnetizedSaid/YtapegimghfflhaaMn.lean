/- Contract: grow (package field): the nodes that hang on a node. -/
import Derived.Test.YtapegimghfflhaaMm

section
namespace Go.Proofs.Ytapegimghfflhaa
open Go.RowKit

/-- A forest in memory: the block p holds its slices; the rows of lowest nodes and of branches lie in blocks of their own, the order in a row of the call's own. -/
structure FstIn (qb p gl gh : Nat) (N : Nat) (s : Fst) (w : World) : Prop where
  blk : ∃ (od : Value), Blk w p 103 #[.slice (some ⟨gl, 0, none⟩) N N, .slice (some ⟨gh, 0, none⟩) N N, od] ∧ w.ownsRow qb 3 1 od s.order.length (s.order.map (fun (k : Nat) => Value.int .i64 (k : Int)))
  low : Blk w gl 3 (intA s.low)
  hangs : Blk w gh 3 (intA s.hangs)
theorem ownFar {w : World} {base size n : Nat} {e : TypeId} {v : Value} {xs : List Value} (ho : w.ownsRow base e size v n xs) {q : Addr} (hq : q.block < base) (u : Value) : (w.setCell q u).ownsRow base e size v n xs := by
  obtain ⟨h1, h2⟩ := ho
  refine ⟨h1, ?_⟩
  rcases h2 with h2 | ⟨g', cap, cur, h3, h4, h5, h6⟩
  · exact .inl h2
  · exact .inr ⟨g', cap, cur, h3, h4, (Below.heap_setCell _ _ _ _ (by omega)).trans h5, h6⟩
theorem FstIn.past {qb p gl gh N : Nat} {s : Fst} {w w' : World} (h : FstIn qb p gl gh N s w) (hb : Below w.heap.size w w') : FstIn qb p gl gh N s w' := by
  obtain ⟨od, h1, h2⟩ := h.blk
  exact ⟨⟨od, h1.past hb, ownPast hb h2⟩, h.low.past hb, h.hangs.past hb⟩
theorem fst_order {qb p gl gh N : Nat} {s : Fst} {w : World} (h : FstIn qb p gl gh N s w) : ∃ A c, Blk w p 103 #[.slice (some ⟨gl, 0, none⟩) N N, .slice (some ⟨gh, 0, none⟩) N N, .slice A s.order.length c] ∧ w.ownsRow qb 3 1 (.slice A s.order.length c) s.order.length (s.order.map (fun (k : Nat) => Value.int .i64 (k : Int))) := by
  obtain ⟨od, h1, h2⟩ := h.blk
  obtain ⟨A, c, rfl, _⟩ := own_form h2
  exact ⟨A, c, h1, h2⟩

set_option maxHeartbeats 4000000 in
set_option maxRecDepth 100000 in
theorem grow_any (B base qb p gl gh : Nat) (N : Nat) (bs : List FBr) (A : Option Addr) (n c : Nat) (s : Fst) (k : Nat) (w : World)
    (hok : NetOk N bs) (hs : FstOk N bs s) (hF : FstIn qb p gl gh N s w) (hb : CellsIn B w A (brsC bs)) (hB : B ≤ base) (hd : (base ≤ p ∧ base ≤ gl ∧ base ≤ gh) ∧ (p < qb ∧ gl < qb ∧ gh < qb) ∧ p ≠ gl ∧ p ≠ gh ∧ gl ≠ gh) (hob : qb ≤ w.heap.size) (hbw : base ≤ w.heap.size) (hn : bs.length = n) (hk : k ∈ s.order) :
    Calls Try.prog 65 #[.pointer (some ⟨p, 0, none⟩), .agg #[.int .i64 (N : Int), .slice A n c], .int .i64 (k : Int)] w fun e w' => e = .returned (.tuple #[]) ∧ FstIn qb p gl gh N (growV bs k s) w' ∧ Below base w w' := by
  obtain ⟨⟨hd0, hd1, hd2⟩, ⟨hd3, hd4, hd5⟩, hd6, hd7, hd8⟩ := hd
  obtain ⟨j0, hj0, hjz, hjs, hjb⟩ := info_of (show (Try.prog.info? 3).map (fun i => (i.zero, i.size, i.bytes)) = some (some (.int .i64 0), 1, 8) by kernel_rfl)
  have HGr := Lib.hid (show growV bs k s = growTo bs k n s from by rw [← hn]; rfl)
  have HOk := Lib.hid (fun i (hi : i ≤ n) => growTo_ok hok hs hk (i := i) (by rw [hn]; exact hi))
  have HMem := Lib.hid (fun i => (growTo_pre bs k s i).subset hk)
  have HNet := Lib.hid hok
  have HN := Lib.hid hn
  have hkN := ((hs.mem k).1 hk).1
  have hm := hok.m
  have hN5 := hok.n.2
  have HF := Lib.hid hF
  have HX := Lib.hid (fun W (hW : Below base w W) => hb.below (hW.mono hB))
  have x1 : (w.alloc (.cells #[.int .i64 (N : Int), .slice A n c] 49)).cell? ⟨w.heap.size, 1, none⟩ = some (.slice A n c) := (Blk.newAt rfl : Blk (w.alloc (.cells #[.int .i64 (N : Int), .slice A n c] 49)) w.heap.size 49 #[.int .i64 (N : Int), .slice A n c]).cellAt 1 rfl
  clear hF hb hok hs hk
  go_enter Try.func65, Try.ntmps65
  go_wp2
  have HQ0 := Lib.hid (show Below base w (w.alloc (.cells #[.int .i64 (N : Int), .slice A n c] 49)) from (Below.refl base w).alloc hbw _)
  have HF0 := Lib.hid (show FstIn qb p gl gh N (growTo bs k 0 s) (w.alloc (.cells #[.int .i64 (N : Int), .slice A n c] 49)) from HF.out.past (pa pr))
  generalize w.alloc (.cells #[.int .i64 (N : Int), .slice A n c] 49) = w0 at *
  clear x1
  go_loopw [12] (fun iv wr => ∃ i : Nat, iv = .int .i64 (i : Int) ∧ i ≤ n ∧ FstIn qb p gl gh N (growTo bs k i s) wr ∧ Below base w wr) (fun iv _ => n - (intOf iv).toNat)
  case atStart => exact ⟨0, rfl, Nat.zero_le _, HF0.out, HQ0.out⟩
  case round =>
    clear HF0 HF
    obtain ⟨i, rfl, hi, hf, hq⟩ := hrel
    have HF := Lib.hid hf
    have HQ := Lib.hid hq
    have hbr := HX.out wr hq
    have hbase : base ≤ wr.heap.size := Nat.le_trans hbw hq.size
    have hqb : qb ≤ wr.heap.size := Nat.le_trans hob hq.size
    clear hf hq
    by_cases hlt : i < n
    · have hi2 : i < bs.length := by rw [HN.out]; exact hlt
      have ok := HOk.out i hi
      have hmem := HMem.out i
      have HNx := Lib.hid (show growTo bs k (i + 1) s = growStep bs k i (growTo bs k i s) from rfl)
      obtain ⟨bb, ob, rfl, hbb, hcb⟩ := brs_at hbr hi2
      obtain ⟨u0, u1, u2, u3⟩ := hcb i hi2
      have hbbw : bb < wr.heap.size := by omega
      have i0 : (0 : Int) ≤ (i : Int) := by omega
      have i1 : (i : Int) < (n : Int) := by omega
      have k0 : (0 : Int) ≤ (k : Int) := by omega
      have k1 : (k : Int) < (N : Int) := by omega
      have HOth := Lib.hid (fun hx => other_ok (at_ := k) HNet.out hi2 hx)
      have HSt := Lib.hid (show growStep bs k i (growTo bs k i s) = if (bs.getD i default).a ≠ (k : Int) ∧ (bs.getD i default).b ≠ (k : Int) then growTo bs k i s else if (growTo bs k i s).low.getD (otherN (bs.getD i default) k) 0 = -1 then ⟨(growTo bs k i s).low.set (otherN (bs.getD i default) k) ((growTo bs k i s).low.getD k 0), (growTo bs k i s).hangs.set (otherN (bs.getD i default) k) (i : Int), (growTo bs k i s).order ++ [otherN (bs.getD i default) k]⟩ else growTo bs k i s from rfl)
      have HXb := Lib.hid (HNet.out.br _ (getD_memF hi2))
      clear hcb hbr
      generalize growTo bs k i s = t at *
      generalize otherN (bs.getD i default) k = oa at *
      generalize bs.getD i default = x at *
      obtain ⟨xa, xb, xr, xt⟩ := x
      dsimp only at *
      have HB1 := Lib.hid (show Below base w (wr.alloc (.cells #[.int .i64 xa, .int .i64 xb, .int .i64 xr, .int .i64 xt] 79)) from HQ.out.alloc hbase _)
      have HP1 := Lib.hid (show Blk (wr.alloc (.cells #[.int .i64 xa, .int .i64 xb, .int .i64 xr, .int .i64 xt] 79)) wr.heap.size 79 #[.int .i64 xa, .int .i64 xb, .int .i64 xr, .int .i64 xt] from Blk.newAt rfl)
      have HF1 := Lib.hid (HF.out.past (show Below wr.heap.size wr (wr.alloc (.cells #[.int .i64 xa, .int .i64 xb, .int .i64 xr, .int .i64 xt] 79)) from pa pr))
      by_cases hx : xa ≠ (k : Int) ∧ xb ≠ (k : Int)
      · have z1 : (xa != (k : Int)) = true := by simpa using hx.1
        have z2 : (xb != (k : Int)) = true := by simpa using hx.2
        have HE := Lib.hid (show growTo bs k (i + 1) s = t by rw [HNx.out, HSt.out, if_pos hx])
        clear hx
        go_wp2
        go_roundw
        case rel => exact ⟨i + 1, by go_num, by omega, by rw [HE.out]; exact HF1.out, HB1.out⟩
        case measure => simp [intOf]; omega
      · obtain ⟨o1, o2, o5, _, _⟩ := HOth.out hx
        have HXn := Lib.hid hx
        obtain ⟨b1, b2, _⟩ := HXb.out
        have w3 : wrap64 (xa + xb) = xa + xb := w64 (by omega)
        have w3i : IntKind.i64.wrap (xa + xb) = xa + xb := IntWalk.i64_in _ (by omega)
        have w4 : wrap64 (xa + xb - (k : Int)) = (oa : Int) := (w64 (by omega)).trans o2.symm
        have w4i : IntKind.i64.wrap (xa + xb - (k : Int)) = (oa : Int) := (IntWalk.i64_in _ (by omega)).trans o2.symm
        have o0 : (0 : Int) ≤ (oa : Int) := by omega
        have o3 : (oa : Int) < (N : Int) := by omega
        have HAB := Lib.hid (show xa = (k : Int) ∨ xa ≠ (k : Int) ∧ xb = (k : Int) from by
          by_cases e : xa = (k : Int)
          · exact .inl e
          · exact .inr ⟨e, Decidable.not_not.1 fun e2 => hx ⟨e, e2⟩⟩)
        clear hx b1 b2 o2
        obtain ⟨A0, c0, hpb, _⟩ := fst_order HF.out
        have lc := intA_cell HF.out.low (show oa < t.low.length by rw [ok.ll]; exact o1)
        have ll := HF.out.low.lt
        have p0 := hpb.cellAt 0 rfl
        have pl := hpb.lt
        clear hpb
        by_cases h0 : t.low.getD oa 0 = -1
        · have HE := Lib.hid (show growTo bs k (i + 1) s = ⟨t.low.set oa (t.low.getD k 0), t.hangs.set oa (i : Int), t.order ++ [oa]⟩ by rw [HNx.out, HSt.out, if_neg HXn.out, if_pos h0])
          rw [h0] at lc
          have HLk := Lib.hid (show ∃ lk, lk = t.low.getD k 0 from ⟨_, rfl⟩)
          obtain ⟨lk, hlk⟩ := HLk.out
          rw [← hlk] at HE
          have HLk2 := Lib.hid hlk
          clear HLk hlk h0
          have hol : t.order.length ≤ 5 := Nat.le_trans ok.len hN5
          rcases HAB.out with hxa | ⟨hxa, hxb⟩
          · have z1 : (xa != (k : Int)) = false := by simpa using hxa
            clear hxa
            go_wp2
            generalize wr.alloc (.cells #[.int .i64 xa, .int .i64 xb, .int .i64 xr, .int .i64 xt] 79) = wx at *
            clear p0 pl ll lc
            have lc := intA_cell HF1.out.low (show oa < t.low.length by rw [ok.ll]; exact o1)
            have kc := intA_cell HF1.out.low (show k < t.low.length by rw [ok.ll]; exact hkN)
            rw [← HLk2.out] at kc
            have hc := intA_cell HF1.out.hangs (show oa < t.hangs.length by rw [ok.hl]; exact o1)
            obtain ⟨AO, cO, hpb, hown⟩ := fst_order HF1.out
            have HPb := Lib.hid hpb
            have HOw := Lib.hid hown
            have HSS := Lib.hid (show ∀ W, Blk W p 103 #[.slice (some ⟨gl, 0, none⟩) N N, .slice (some ⟨gh, 0, none⟩) N N, .slice AO t.order.length cO] → W.cell? ⟨gl, k, none⟩ = some (.int .i64 lk) → W.cell? ⟨p, 0, none⟩ = some (.slice (some ⟨gl, 0, none⟩) N N) ∧ W.cell? ⟨p, 1, none⟩ = some (.slice (some ⟨gh, 0, none⟩) N N) ∧ W.cell? ⟨gl, k, none⟩ = some (.int .i64 lk) from fun W h1 h2 => ⟨h1.cellAt 0 rfl, h1.cellAt 1 rfl, h2⟩)
            clear hpb hown
            refine wp_region_G 21 follows_mixed (fun W => W.cell? ⟨p, 0, none⟩ = some (.slice (some ⟨gl, 0, none⟩) N N) ∧ W.cell? ⟨p, 1, none⟩ = some (.slice (some ⟨gh, 0, none⟩) N N) ∧ W.cell? ⟨gl, k, none⟩ = some (.int .i64 lk)) (HSS.out _ HPb.out.drew kc) ?_
            intro hSd inv
            have HSd := Lib.hid hSd
            clear hSd
            refine wpAnyG_take (i := 0) (v := ?_) rfl (by kernel_rfl) (by kernel_rfl) (by kernel_rfl) (by kernel_rfl) (by kernel_rfl) (by decide) (by decide) inv (fun _ _ _ h => h) (Or.inl ⟨by rfl, ?_⟩) HSd.out ?_; rotate_left; (focus (intro W y1; obtain ⟨y1, y2, y3⟩ := y1; go_simp; (first | done | with_reducible rfl))); clear inv; intro inv; simp only [List.getElem_toArray, List.getElem_cons_zero, Act.put, List.setIfInBounds_toArray, List.set_cons_zero, List.set_cons_succ]
            refine wpAnyG_take (i := 1) (v := ?_) rfl (by kernel_rfl) (by kernel_rfl) (by kernel_rfl) (by kernel_rfl) (by kernel_rfl) (by decide) (by decide) inv (fun _ _ _ h => h) (Or.inl ⟨by rfl, ?_⟩) HSd.out ?_; rotate_left; (focus (intro W y1; obtain ⟨y1, y2, y3⟩ := y1; go_simp; (first | done | with_reducible rfl))); clear inv; intro inv; simp only [List.getElem_toArray, List.getElem_cons_zero, List.getElem_cons_succ, Act.put, List.setIfInBounds_toArray, List.set_cons_zero, List.set_cons_succ]
            refine wpAnyG_take (i := 2) (v := ?_) rfl (by kernel_rfl) (by kernel_rfl) (by kernel_rfl) (by kernel_rfl) (by kernel_rfl) (by decide) (by decide) inv (fun _ _ _ h => h) (Or.inl ⟨by rfl, ?_⟩) HSd.out ?_; rotate_left; (focus (intro W y1; obtain ⟨y1, y2, y3⟩ := y1; go_simp; (first | done | with_reducible rfl))); clear inv; intro inv; simp only [List.getElem_toArray, List.getElem_cons_zero, List.getElem_cons_succ, Act.put, List.setIfInBounds_toArray, List.set_cons_zero, List.set_cons_succ]
            refine wpAnyG_take (i := 3) (v := ?_) rfl (by kernel_rfl) (by kernel_rfl) (by kernel_rfl) (by kernel_rfl) (by kernel_rfl) (by decide) (by decide) inv (fun _ _ _ h => h) (Or.inl ⟨by rfl, ?_⟩) HSd.out ?_; rotate_left; (focus (intro W y1; obtain ⟨y1, y2, y3⟩ := y1; go_simp; (first | done | with_reducible rfl))); clear inv; intro inv; simp only [List.getElem_toArray, List.getElem_cons_zero, List.getElem_cons_succ, Act.put, List.setIfInBounds_toArray, List.set_cons_zero, List.set_cons_succ]
            refine wpAnyG_take (i := 4) (v := ?_) rfl (by kernel_rfl) (by kernel_rfl) (by kernel_rfl) (by kernel_rfl) (by kernel_rfl) (by decide) (by decide) inv (fun _ _ _ h => h) (Or.inl ⟨by rfl, ?_⟩) HSd.out ?_; rotate_left; (focus (intro W y1; obtain ⟨y1, y2, y3⟩ := y1; go_simp; (first | done | with_reducible rfl))); clear inv; intro inv; simp only [List.getElem_toArray, List.getElem_cons_zero, List.getElem_cons_succ, Act.put, List.setIfInBounds_toArray, List.set_cons_zero, List.set_cons_succ]
            refine wpAnyG_take (i := 5) (v := ?_) rfl (by kernel_rfl) (by kernel_rfl) (by kernel_rfl) (by kernel_rfl) (by kernel_rfl) (by decide) (by decide) inv (fun _ _ _ h => h) (Or.inl ⟨by rfl, ?_⟩) HSd.out ?_; rotate_left; (focus (intro W y1; obtain ⟨y1, y2, y3⟩ := y1; go_simp; (first | done | with_reducible rfl))); clear inv; intro inv; simp only [List.getElem_toArray, List.getElem_cons_zero, List.getElem_cons_succ, Act.put, List.setIfInBounds_toArray, List.set_cons_zero, List.set_cons_succ]
            refine wpAnyG_take (i := 6) (v := ?_) rfl (by kernel_rfl) (by kernel_rfl) (by kernel_rfl) (by kernel_rfl) (by kernel_rfl) (by decide) (by decide) inv (fun _ _ _ h => h) (Or.inl ⟨by rfl, ?_⟩) HSd.out ?_; rotate_left; (focus (intro W y1; obtain ⟨y1, y2, y3⟩ := y1; go_simp; (first | done | with_reducible rfl))); clear inv; intro inv; simp only [List.getElem_toArray, List.getElem_cons_zero, List.getElem_cons_succ, Act.put, List.setIfInBounds_toArray, List.set_cons_zero, List.set_cons_succ]
            refine wpAnyG_take (i := 7) (v := ?_) rfl (by kernel_rfl) (by kernel_rfl) (by kernel_rfl) (by kernel_rfl) (by kernel_rfl) (by decide) (by decide) inv (fun _ _ _ h => h) (Or.inl ⟨by rfl, ?_⟩) HSd.out ?_; rotate_left; (focus (intro W y1; obtain ⟨y1, y2, y3⟩ := y1; go_simp; (first | done | with_reducible rfl))); clear inv; intro inv; simp only [List.getElem_toArray, List.getElem_cons_zero, List.getElem_cons_succ, Act.put, List.setIfInBounds_toArray, List.set_cons_zero, List.set_cons_succ]
            refine wpAnyG_take (i := 8) (v := ?_) rfl (by kernel_rfl) (by kernel_rfl) (by kernel_rfl) (by kernel_rfl) (by kernel_rfl) (by decide) (by decide) inv (fun _ _ _ h => h) (Or.inl ⟨by rfl, ?_⟩) HSd.out ?_; rotate_left; (focus (intro W y1; obtain ⟨y1, y2, y3⟩ := y1; go_simp; (first | done | with_reducible rfl))); clear inv; intro inv; simp only [List.getElem_toArray, List.getElem_cons_zero, List.getElem_cons_succ, Act.put, List.setIfInBounds_toArray, List.set_cons_zero, List.set_cons_succ]
            refine wpAnyG_take (i := 9) (v := ?_) rfl (by kernel_rfl) (by kernel_rfl) (by kernel_rfl) (by kernel_rfl) (by kernel_rfl) (by decide) (by decide) inv (fun _ _ _ h => h) (Or.inl ⟨by rfl, ?_⟩) HSd.out ?_; rotate_left; (focus (intro W y1; obtain ⟨y1, y2, y3⟩ := y1; go_simp; (first | done | with_reducible rfl))); clear inv; intro inv; simp only [List.getElem_toArray, List.getElem_cons_zero, List.getElem_cons_succ, Act.put, List.setIfInBounds_toArray, List.set_cons_zero, List.set_cons_succ]
            refine wpAnyG_take (i := 10) (v := ?_) rfl (by kernel_rfl) (by kernel_rfl) (by kernel_rfl) (by kernel_rfl) (by kernel_rfl) (by decide) (by decide) inv (fun _ _ _ h => h) (Or.inl ⟨by rfl, ?_⟩) HSd.out ?_; rotate_left; (focus (intro W y1; obtain ⟨y1, y2, y3⟩ := y1; go_simp; (first | done | with_reducible rfl))); clear inv; intro inv; simp only [List.getElem_toArray, List.getElem_cons_zero, List.getElem_cons_succ, Act.put, List.setIfInBounds_toArray, List.set_cons_zero, List.set_cons_succ]
            refine wpAnyG_take (i := 11) (v := ?_) rfl (by kernel_rfl) (by kernel_rfl) (by kernel_rfl) (by kernel_rfl) (by kernel_rfl) (by decide) (by decide) inv (fun _ _ _ h => h) (Or.inl ⟨by rfl, ?_⟩) HSd.out ?_; rotate_left; (focus (intro W y1; obtain ⟨y1, y2, y3⟩ := y1; go_simp; (first | done | with_reducible rfl))); clear inv; intro inv; simp only [List.getElem_toArray, List.getElem_cons_zero, List.getElem_cons_succ, Act.put, List.setIfInBounds_toArray, List.set_cons_zero, List.set_cons_succ]
            refine wpAnyG_take (i := 12) (v := ?_) rfl (by kernel_rfl) (by kernel_rfl) (by kernel_rfl) (by kernel_rfl) (by kernel_rfl) (by decide) (by decide) inv (fun _ _ _ h => h) (Or.inl ⟨by rfl, ?_⟩) HSd.out ?_; rotate_left; (focus (intro W y1; obtain ⟨y1, y2, y3⟩ := y1; go_simp; (first | done | with_reducible rfl))); clear inv; intro inv; simp only [List.getElem_toArray, List.getElem_cons_zero, List.getElem_cons_succ, Act.put, List.setIfInBounds_toArray, List.set_cons_zero, List.set_cons_succ]
            refine wpAnyG_take (i := 13) (v := ?_) rfl (by kernel_rfl) (by kernel_rfl) (by kernel_rfl) (by kernel_rfl) (by kernel_rfl) (by decide) (by decide) inv (fun _ _ _ h => h) (Or.inl ⟨by rfl, ?_⟩) HSd.out ?_; rotate_left; (focus (intro W y1; obtain ⟨y1, y2, y3⟩ := y1; go_simp; (first | done | with_reducible rfl))); clear inv; intro inv; simp only [List.getElem_toArray, List.getElem_cons_zero, List.getElem_cons_succ, Act.put, List.setIfInBounds_toArray, List.set_cons_zero, List.set_cons_succ]
            refine wpAnyG_take (i := 14) (v := ?_) rfl (by kernel_rfl) (by kernel_rfl) (by kernel_rfl) (by kernel_rfl) (by kernel_rfl) (by decide) (by decide) inv (fun _ _ _ h => h) (Or.inl ⟨by rfl, ?_⟩) HSd.out ?_; rotate_left; (focus (intro W y1; obtain ⟨y1, y2, y3⟩ := y1; go_simp; (first | done | with_reducible rfl))); clear inv; intro inv; simp only [List.getElem_toArray, List.getElem_cons_zero, List.getElem_cons_succ, Act.put, List.setIfInBounds_toArray, List.set_cons_zero, List.set_cons_succ]
            refine wpAnyG_take (i := 15) (v := ?_) rfl (by kernel_rfl) (by kernel_rfl) (by kernel_rfl) (by kernel_rfl) (by kernel_rfl) (by decide) (by decide) inv (fun _ _ _ h => h) (Or.inl ⟨by rfl, ?_⟩) HSd.out ?_; rotate_left; (focus (intro W y1; obtain ⟨y1, y2, y3⟩ := y1; go_simp; (first | done | with_reducible rfl))); clear inv; intro inv; simp only [List.getElem_toArray, List.getElem_cons_zero, List.getElem_cons_succ, Act.put, List.setIfInBounds_toArray, List.set_cons_zero, List.set_cons_succ]
            refine wpAnyG_take (i := 16) (v := ?_) rfl (by kernel_rfl) (by kernel_rfl) (by kernel_rfl) (by kernel_rfl) (by kernel_rfl) (by decide) (by decide) inv (fun _ _ _ h => h) (Or.inl ⟨by rfl, ?_⟩) HSd.out ?_; rotate_left; (focus (intro W y1; obtain ⟨y1, y2, y3⟩ := y1; go_simp; (first | done | with_reducible rfl))); clear inv; intro inv; simp only [List.getElem_toArray, List.getElem_cons_zero, List.getElem_cons_succ, Act.put, List.setIfInBounds_toArray, List.set_cons_zero, List.set_cons_succ]
            refine wpAnyG_take (i := 17) (v := ?_) rfl (by kernel_rfl) (by kernel_rfl) (by kernel_rfl) (by kernel_rfl) (by kernel_rfl) (by decide) (by decide) inv (fun _ _ _ h => h) (Or.inl ⟨by rfl, ?_⟩) HSd.out ?_; rotate_left; (focus (intro W y1; obtain ⟨y1, y2, y3⟩ := y1; go_simp; (first | done | with_reducible rfl))); clear inv; intro inv; simp only [List.getElem_toArray, List.getElem_cons_zero, List.getElem_cons_succ, Act.put, List.setIfInBounds_toArray, List.set_cons_zero, List.set_cons_succ]
            refine wpAnyG_take (i := 18) (v := ?_) rfl (by kernel_rfl) (by kernel_rfl) (by kernel_rfl) (by kernel_rfl) (by kernel_rfl) (by decide) (by decide) inv (fun _ _ _ h => h) (Or.inl ⟨by rfl, ?_⟩) HSd.out ?_; rotate_left; (focus (intro W y1; obtain ⟨y1, y2, y3⟩ := y1; go_simp; (first | done | with_reducible rfl))); clear inv; intro inv; simp only [List.getElem_toArray, List.getElem_cons_zero, List.getElem_cons_succ, Act.put, List.setIfInBounds_toArray, List.set_cons_zero, List.set_cons_succ]
            have HInv := Lib.hid inv
            clear inv
            have lf := HF1.out.low.frozen oa
            have ll := HF1.out.low.lt
            refine wpAnyG_one (i := 19) (by kernel_rfl) rfl rfl fun K hK => ?_
            go_simp
            have HPy := Lib.hid (show Blk ((wx.setCell ⟨gl, oa, none⟩ (.int .i64 lk)).drew) p 103 #[.slice (some ⟨gl, 0, none⟩) N N, .slice (some ⟨gh, 0, none⟩) N N, .slice AO t.order.length cO] from HPb.out.far (p := ⟨gl, oa, none⟩) (by dsimp only; omega))
            have HLy := Lib.hid (show Blk ((wx.setCell ⟨gl, oa, none⟩ (.int .i64 lk)).drew) gl 3 (intA (t.low.set oa lk)) from intA_set HF1.out.low oa lk)
            have HHy := Lib.hid (show Blk ((wx.setCell ⟨gl, oa, none⟩ (.int .i64 lk)).drew) gh 3 (intA t.hangs) from HF1.out.hangs.far (p := ⟨gl, oa, none⟩) (by dsimp only; omega))
            have HOy := Lib.hid (show ((wx.setCell ⟨gl, oa, none⟩ (.int .i64 lk)).drew).ownsRow qb 3 1 (.slice AO t.order.length cO) t.order.length (t.order.map (fun (k : Nat) => Value.int .i64 (k : Int))) from ownFar HOw.out (q := ⟨gl, oa, none⟩) (by dsimp only; omega) (.int .i64 lk))
            have HBy := Lib.hid (show Below base w ((wx.setCell ⟨gl, oa, none⟩ (.int .i64 lk)).drew) from (HB1.out.setCell (p := ⟨gl, oa, none⟩) hd1 (.int .i64 lk)).drew)
            have hky := (World.cell?_setCell_other wx ⟨gl, oa, none⟩ ⟨gl, k, none⟩ (.int .i64 lk) (by intro e; injection e with _ e _; exact o5 e)).trans kc
            replace hky : ((wx.setCell ⟨gl, oa, none⟩ (.int .i64 lk)).drew).cell? ⟨gl, k, none⟩ = some (.int .i64 lk) := hky
            clear lf ll lc kc HPb HOw
            generalize (wx.setCell ⟨gl, oa, none⟩ (.int .i64 lk)).drew = wy at *
            refine hK.out _ _ (fun _ => HSS.out _ HPy.out hky) ?_
            clear hK K
            refine wpAnyG_one (i := 20) (by kernel_rfl) rfl rfl fun K hK => ?_
            go_simp
            refine hK.out _ _ (fun _ => HSS.out _ HPy.out hky) ?_
            clear hK K
            have hc := intA_cell HHy.out (show oa < t.hangs.length by rw [ok.hl]; exact o1)
            have hf2 := HHy.out.frozen oa
            have hl := HHy.out.lt
            refine wpAnyG_one (i := 21) (by kernel_rfl) rfl rfl fun K hK => ?_
            go_simp
            refine hK.out _ _ (fun h => absurd h (by decide)) ?_
            clear hK K
            refine wpAnyG_done (by kernel_rfl) ?_
            have HPz := Lib.hid (show Blk (wy.setCell ⟨gh, oa, none⟩ (.int .i64 (i : Int))) p 103 #[.slice (some ⟨gl, 0, none⟩) N N, .slice (some ⟨gh, 0, none⟩) N N, .slice AO t.order.length cO] from HPy.out.far (p := ⟨gh, oa, none⟩) (by dsimp only; omega))
            have HLz := Lib.hid (show Blk (wy.setCell ⟨gh, oa, none⟩ (.int .i64 (i : Int))) gl 3 (intA (t.low.set oa lk)) from HLy.out.far (p := ⟨gh, oa, none⟩) (by dsimp only; omega))
            have HHz := Lib.hid (show Blk (wy.setCell ⟨gh, oa, none⟩ (.int .i64 (i : Int))) gh 3 (intA (t.hangs.set oa (i : Int))) from intA_set HHy.out oa (i : Int))
            have HOz := Lib.hid (show (wy.setCell ⟨gh, oa, none⟩ (.int .i64 (i : Int))).ownsRow qb 3 1 (.slice AO t.order.length cO) t.order.length (t.order.map (fun (k : Nat) => Value.int .i64 (k : Int))) from ownFar HOy.out (q := ⟨gh, oa, none⟩) (by dsimp only; omega) (.int .i64 (i : Int)))
            have HBz := Lib.hid (show Below base w (wy.setCell ⟨gh, oa, none⟩ (.int .i64 (i : Int))) from HBy.out.setCell (p := ⟨gh, oa, none⟩) hd2 (.int .i64 (i : Int)))
            clear hc hf2 hl hky HPy HLy HHy HOy HBy HSS HSd HInv
            generalize wy.setCell ⟨gh, oa, none⟩ (.int .i64 (i : Int)) = wz at *
            have HAl := Lib.hid (show Below wz.heap.size wz (wz.alloc (.cells #[.int .i64 (oa : Int)] 3)) from pa pr)
            have HOa := Lib.hid (ownPast HAl.out HOz.out)
            have HCa := Lib.hid (cells_newO wz 3 #[.int .i64 (oa : Int)])
            have p2 := HPz.out.cellAt 2 rfl
            have pl := HPz.out.lt
            go_wp2_with (at_builtin; go_must (refine wpList_append_cells _ rfl (.tmp 66) (.tmp 68) _ rfl qb 3 j0 _ 1 8 Try.underlying42 hj0 hjz hjs hjb rfl (by omega) (.slice AO t.order.length cO) t.order.length (t.order.map (fun (k : Nat) => Value.int .i64 (k : Int))) rfl HOa.out (wz.heap.size + 1) (some ⟨wz.heap.size, 0, none⟩) 1 1 [.int .i64 (oa : Int)] rfl HCa.out rfl (by simp [Value.oneCell']) (by simp only [maxLen]; omega) (by omega) (by have := HBz.out.size; simp; omega) ?_); intro v4 w4 hown4 hg4 _; obtain ⟨A4, c4, rfl, hc4, _⟩ := own_form hown4; have HP4 := Lib.hid ((HPz.out.past HAl.out).grown hg4 (fun e => by have := (HOa.out.lt p e.symm).1; omega)); have HL4 := Lib.hid ((HLz.out.past HAl.out).grown hg4 (fun e => by have := (HOa.out.lt gl e.symm).1; omega)); have HH4 := Lib.hid ((HHz.out.past HAl.out).grown hg4 (fun e => by have := (HOa.out.lt gh e.symm).1; omega)); have HB4 := Lib.hid (((HBz.out.trans (HAl.out.mono (Nat.le_trans hbw HBz.out.size)))).grown hg4 (by have := HBz.out.size; have := HAl.out.size; omega) (fun q hq => by have := (HOa.out.lt q hq).1; omega)); have HO4 := Lib.hid hown4; clear p2 pl hown4 hg4; have p2 := HP4.out.cellAt 2 rfl; have pf := HP4.out.frozen 2; have pl := HP4.out.lt)
            go_roundw
            case rel => exact ⟨i + 1, by go_num, by omega, by
              rw [HE.out]
              refine ⟨⟨.slice A4 (t.order.length + 1) c4, by simpa using HP4.out.set_ 2 (.slice A4 (t.order.length + 1) c4), ?_⟩, HL4.out.far (p := ⟨p, 2, none⟩) (by dsimp only; omega), HH4.out.far (p := ⟨p, 2, none⟩) (by dsimp only; omega)⟩
              have h := ownFar HO4.out (q := ⟨p, 2, none⟩) (by dsimp only; omega) (.slice A4 (t.order.length + 1) c4)
              dsimp only
              rw [List.length_append, List.length_singleton, List.map_append]
              exact h, HB4.out.setCell (p := ⟨p, 2, none⟩) (by dsimp only; omega) _⟩
            case measure => simp [intOf]; omega
          · have z1 : (xa != (k : Int)) = true := by simpa using hxa
            have z2 : (xb != (k : Int)) = false := by simpa using hxb
            clear hxa hxb
            go_wp2
            generalize wr.alloc (.cells #[.int .i64 xa, .int .i64 xb, .int .i64 xr, .int .i64 xt] 79) = wx at *
            clear p0 pl ll lc
            have lc := intA_cell HF1.out.low (show oa < t.low.length by rw [ok.ll]; exact o1)
            have kc := intA_cell HF1.out.low (show k < t.low.length by rw [ok.ll]; exact hkN)
            rw [← HLk2.out] at kc
            have hc := intA_cell HF1.out.hangs (show oa < t.hangs.length by rw [ok.hl]; exact o1)
            obtain ⟨AO, cO, hpb, hown⟩ := fst_order HF1.out
            have HPb := Lib.hid hpb
            have HOw := Lib.hid hown
            have HSS := Lib.hid (show ∀ W, Blk W p 103 #[.slice (some ⟨gl, 0, none⟩) N N, .slice (some ⟨gh, 0, none⟩) N N, .slice AO t.order.length cO] → W.cell? ⟨gl, k, none⟩ = some (.int .i64 lk) → W.cell? ⟨p, 0, none⟩ = some (.slice (some ⟨gl, 0, none⟩) N N) ∧ W.cell? ⟨p, 1, none⟩ = some (.slice (some ⟨gh, 0, none⟩) N N) ∧ W.cell? ⟨gl, k, none⟩ = some (.int .i64 lk) from fun W h1 h2 => ⟨h1.cellAt 0 rfl, h1.cellAt 1 rfl, h2⟩)
            clear hpb hown
            refine wp_region_G 21 follows_mixed (fun W => W.cell? ⟨p, 0, none⟩ = some (.slice (some ⟨gl, 0, none⟩) N N) ∧ W.cell? ⟨p, 1, none⟩ = some (.slice (some ⟨gh, 0, none⟩) N N) ∧ W.cell? ⟨gl, k, none⟩ = some (.int .i64 lk)) (HSS.out _ HPb.out.drew kc) ?_
            intro hSd inv
            have HSd := Lib.hid hSd
            clear hSd
            refine wpAnyG_take (i := 0) (v := ?_) rfl (by kernel_rfl) (by kernel_rfl) (by kernel_rfl) (by kernel_rfl) (by kernel_rfl) (by decide) (by decide) inv (fun _ _ _ h => h) (Or.inl ⟨by rfl, ?_⟩) HSd.out ?_; rotate_left; (focus (intro W y1; obtain ⟨y1, y2, y3⟩ := y1; go_simp; (first | done | with_reducible rfl))); clear inv; intro inv; simp only [List.getElem_toArray, List.getElem_cons_zero, Act.put, List.setIfInBounds_toArray, List.set_cons_zero, List.set_cons_succ]
            refine wpAnyG_take (i := 1) (v := ?_) rfl (by kernel_rfl) (by kernel_rfl) (by kernel_rfl) (by kernel_rfl) (by kernel_rfl) (by decide) (by decide) inv (fun _ _ _ h => h) (Or.inl ⟨by rfl, ?_⟩) HSd.out ?_; rotate_left; (focus (intro W y1; obtain ⟨y1, y2, y3⟩ := y1; go_simp; (first | done | with_reducible rfl))); clear inv; intro inv; simp only [List.getElem_toArray, List.getElem_cons_zero, List.getElem_cons_succ, Act.put, List.setIfInBounds_toArray, List.set_cons_zero, List.set_cons_succ]
            refine wpAnyG_take (i := 2) (v := ?_) rfl (by kernel_rfl) (by kernel_rfl) (by kernel_rfl) (by kernel_rfl) (by kernel_rfl) (by decide) (by decide) inv (fun _ _ _ h => h) (Or.inl ⟨by rfl, ?_⟩) HSd.out ?_; rotate_left; (focus (intro W y1; obtain ⟨y1, y2, y3⟩ := y1; go_simp; (first | done | with_reducible rfl))); clear inv; intro inv; simp only [List.getElem_toArray, List.getElem_cons_zero, List.getElem_cons_succ, Act.put, List.setIfInBounds_toArray, List.set_cons_zero, List.set_cons_succ]
            refine wpAnyG_take (i := 3) (v := ?_) rfl (by kernel_rfl) (by kernel_rfl) (by kernel_rfl) (by kernel_rfl) (by kernel_rfl) (by decide) (by decide) inv (fun _ _ _ h => h) (Or.inl ⟨by rfl, ?_⟩) HSd.out ?_; rotate_left; (focus (intro W y1; obtain ⟨y1, y2, y3⟩ := y1; go_simp; (first | done | with_reducible rfl))); clear inv; intro inv; simp only [List.getElem_toArray, List.getElem_cons_zero, List.getElem_cons_succ, Act.put, List.setIfInBounds_toArray, List.set_cons_zero, List.set_cons_succ]
            refine wpAnyG_take (i := 4) (v := ?_) rfl (by kernel_rfl) (by kernel_rfl) (by kernel_rfl) (by kernel_rfl) (by kernel_rfl) (by decide) (by decide) inv (fun _ _ _ h => h) (Or.inl ⟨by rfl, ?_⟩) HSd.out ?_; rotate_left; (focus (intro W y1; obtain ⟨y1, y2, y3⟩ := y1; go_simp; (first | done | with_reducible rfl))); clear inv; intro inv; simp only [List.getElem_toArray, List.getElem_cons_zero, List.getElem_cons_succ, Act.put, List.setIfInBounds_toArray, List.set_cons_zero, List.set_cons_succ]
            refine wpAnyG_take (i := 5) (v := ?_) rfl (by kernel_rfl) (by kernel_rfl) (by kernel_rfl) (by kernel_rfl) (by kernel_rfl) (by decide) (by decide) inv (fun _ _ _ h => h) (Or.inl ⟨by rfl, ?_⟩) HSd.out ?_; rotate_left; (focus (intro W y1; obtain ⟨y1, y2, y3⟩ := y1; go_simp; (first | done | with_reducible rfl))); clear inv; intro inv; simp only [List.getElem_toArray, List.getElem_cons_zero, List.getElem_cons_succ, Act.put, List.setIfInBounds_toArray, List.set_cons_zero, List.set_cons_succ]
            refine wpAnyG_take (i := 6) (v := ?_) rfl (by kernel_rfl) (by kernel_rfl) (by kernel_rfl) (by kernel_rfl) (by kernel_rfl) (by decide) (by decide) inv (fun _ _ _ h => h) (Or.inl ⟨by rfl, ?_⟩) HSd.out ?_; rotate_left; (focus (intro W y1; obtain ⟨y1, y2, y3⟩ := y1; go_simp; (first | done | with_reducible rfl))); clear inv; intro inv; simp only [List.getElem_toArray, List.getElem_cons_zero, List.getElem_cons_succ, Act.put, List.setIfInBounds_toArray, List.set_cons_zero, List.set_cons_succ]
            refine wpAnyG_take (i := 7) (v := ?_) rfl (by kernel_rfl) (by kernel_rfl) (by kernel_rfl) (by kernel_rfl) (by kernel_rfl) (by decide) (by decide) inv (fun _ _ _ h => h) (Or.inl ⟨by rfl, ?_⟩) HSd.out ?_; rotate_left; (focus (intro W y1; obtain ⟨y1, y2, y3⟩ := y1; go_simp; (first | done | with_reducible rfl))); clear inv; intro inv; simp only [List.getElem_toArray, List.getElem_cons_zero, List.getElem_cons_succ, Act.put, List.setIfInBounds_toArray, List.set_cons_zero, List.set_cons_succ]
            refine wpAnyG_take (i := 8) (v := ?_) rfl (by kernel_rfl) (by kernel_rfl) (by kernel_rfl) (by kernel_rfl) (by kernel_rfl) (by decide) (by decide) inv (fun _ _ _ h => h) (Or.inl ⟨by rfl, ?_⟩) HSd.out ?_; rotate_left; (focus (intro W y1; obtain ⟨y1, y2, y3⟩ := y1; go_simp; (first | done | with_reducible rfl))); clear inv; intro inv; simp only [List.getElem_toArray, List.getElem_cons_zero, List.getElem_cons_succ, Act.put, List.setIfInBounds_toArray, List.set_cons_zero, List.set_cons_succ]
            refine wpAnyG_take (i := 9) (v := ?_) rfl (by kernel_rfl) (by kernel_rfl) (by kernel_rfl) (by kernel_rfl) (by kernel_rfl) (by decide) (by decide) inv (fun _ _ _ h => h) (Or.inl ⟨by rfl, ?_⟩) HSd.out ?_; rotate_left; (focus (intro W y1; obtain ⟨y1, y2, y3⟩ := y1; go_simp; (first | done | with_reducible rfl))); clear inv; intro inv; simp only [List.getElem_toArray, List.getElem_cons_zero, List.getElem_cons_succ, Act.put, List.setIfInBounds_toArray, List.set_cons_zero, List.set_cons_succ]
            refine wpAnyG_take (i := 10) (v := ?_) rfl (by kernel_rfl) (by kernel_rfl) (by kernel_rfl) (by kernel_rfl) (by kernel_rfl) (by decide) (by decide) inv (fun _ _ _ h => h) (Or.inl ⟨by rfl, ?_⟩) HSd.out ?_; rotate_left; (focus (intro W y1; obtain ⟨y1, y2, y3⟩ := y1; go_simp; (first | done | with_reducible rfl))); clear inv; intro inv; simp only [List.getElem_toArray, List.getElem_cons_zero, List.getElem_cons_succ, Act.put, List.setIfInBounds_toArray, List.set_cons_zero, List.set_cons_succ]
            refine wpAnyG_take (i := 11) (v := ?_) rfl (by kernel_rfl) (by kernel_rfl) (by kernel_rfl) (by kernel_rfl) (by kernel_rfl) (by decide) (by decide) inv (fun _ _ _ h => h) (Or.inl ⟨by rfl, ?_⟩) HSd.out ?_; rotate_left; (focus (intro W y1; obtain ⟨y1, y2, y3⟩ := y1; go_simp; (first | done | with_reducible rfl))); clear inv; intro inv; simp only [List.getElem_toArray, List.getElem_cons_zero, List.getElem_cons_succ, Act.put, List.setIfInBounds_toArray, List.set_cons_zero, List.set_cons_succ]
            refine wpAnyG_take (i := 12) (v := ?_) rfl (by kernel_rfl) (by kernel_rfl) (by kernel_rfl) (by kernel_rfl) (by kernel_rfl) (by decide) (by decide) inv (fun _ _ _ h => h) (Or.inl ⟨by rfl, ?_⟩) HSd.out ?_; rotate_left; (focus (intro W y1; obtain ⟨y1, y2, y3⟩ := y1; go_simp; (first | done | with_reducible rfl))); clear inv; intro inv; simp only [List.getElem_toArray, List.getElem_cons_zero, List.getElem_cons_succ, Act.put, List.setIfInBounds_toArray, List.set_cons_zero, List.set_cons_succ]
            refine wpAnyG_take (i := 13) (v := ?_) rfl (by kernel_rfl) (by kernel_rfl) (by kernel_rfl) (by kernel_rfl) (by kernel_rfl) (by decide) (by decide) inv (fun _ _ _ h => h) (Or.inl ⟨by rfl, ?_⟩) HSd.out ?_; rotate_left; (focus (intro W y1; obtain ⟨y1, y2, y3⟩ := y1; go_simp; (first | done | with_reducible rfl))); clear inv; intro inv; simp only [List.getElem_toArray, List.getElem_cons_zero, List.getElem_cons_succ, Act.put, List.setIfInBounds_toArray, List.set_cons_zero, List.set_cons_succ]
            refine wpAnyG_take (i := 14) (v := ?_) rfl (by kernel_rfl) (by kernel_rfl) (by kernel_rfl) (by kernel_rfl) (by kernel_rfl) (by decide) (by decide) inv (fun _ _ _ h => h) (Or.inl ⟨by rfl, ?_⟩) HSd.out ?_; rotate_left; (focus (intro W y1; obtain ⟨y1, y2, y3⟩ := y1; go_simp; (first | done | with_reducible rfl))); clear inv; intro inv; simp only [List.getElem_toArray, List.getElem_cons_zero, List.getElem_cons_succ, Act.put, List.setIfInBounds_toArray, List.set_cons_zero, List.set_cons_succ]
            refine wpAnyG_take (i := 15) (v := ?_) rfl (by kernel_rfl) (by kernel_rfl) (by kernel_rfl) (by kernel_rfl) (by kernel_rfl) (by decide) (by decide) inv (fun _ _ _ h => h) (Or.inl ⟨by rfl, ?_⟩) HSd.out ?_; rotate_left; (focus (intro W y1; obtain ⟨y1, y2, y3⟩ := y1; go_simp; (first | done | with_reducible rfl))); clear inv; intro inv; simp only [List.getElem_toArray, List.getElem_cons_zero, List.getElem_cons_succ, Act.put, List.setIfInBounds_toArray, List.set_cons_zero, List.set_cons_succ]
            refine wpAnyG_take (i := 16) (v := ?_) rfl (by kernel_rfl) (by kernel_rfl) (by kernel_rfl) (by kernel_rfl) (by kernel_rfl) (by decide) (by decide) inv (fun _ _ _ h => h) (Or.inl ⟨by rfl, ?_⟩) HSd.out ?_; rotate_left; (focus (intro W y1; obtain ⟨y1, y2, y3⟩ := y1; go_simp; (first | done | with_reducible rfl))); clear inv; intro inv; simp only [List.getElem_toArray, List.getElem_cons_zero, List.getElem_cons_succ, Act.put, List.setIfInBounds_toArray, List.set_cons_zero, List.set_cons_succ]
            refine wpAnyG_take (i := 17) (v := ?_) rfl (by kernel_rfl) (by kernel_rfl) (by kernel_rfl) (by kernel_rfl) (by kernel_rfl) (by decide) (by decide) inv (fun _ _ _ h => h) (Or.inl ⟨by rfl, ?_⟩) HSd.out ?_; rotate_left; (focus (intro W y1; obtain ⟨y1, y2, y3⟩ := y1; go_simp; (first | done | with_reducible rfl))); clear inv; intro inv; simp only [List.getElem_toArray, List.getElem_cons_zero, List.getElem_cons_succ, Act.put, List.setIfInBounds_toArray, List.set_cons_zero, List.set_cons_succ]
            refine wpAnyG_take (i := 18) (v := ?_) rfl (by kernel_rfl) (by kernel_rfl) (by kernel_rfl) (by kernel_rfl) (by kernel_rfl) (by decide) (by decide) inv (fun _ _ _ h => h) (Or.inl ⟨by rfl, ?_⟩) HSd.out ?_; rotate_left; (focus (intro W y1; obtain ⟨y1, y2, y3⟩ := y1; go_simp; (first | done | with_reducible rfl))); clear inv; intro inv; simp only [List.getElem_toArray, List.getElem_cons_zero, List.getElem_cons_succ, Act.put, List.setIfInBounds_toArray, List.set_cons_zero, List.set_cons_succ]
            have HInv := Lib.hid inv
            clear inv
            have lf := HF1.out.low.frozen oa
            have ll := HF1.out.low.lt
            refine wpAnyG_one (i := 19) (by kernel_rfl) rfl rfl fun K hK => ?_
            go_simp
            have HPy := Lib.hid (show Blk ((wx.setCell ⟨gl, oa, none⟩ (.int .i64 lk)).drew) p 103 #[.slice (some ⟨gl, 0, none⟩) N N, .slice (some ⟨gh, 0, none⟩) N N, .slice AO t.order.length cO] from HPb.out.far (p := ⟨gl, oa, none⟩) (by dsimp only; omega))
            have HLy := Lib.hid (show Blk ((wx.setCell ⟨gl, oa, none⟩ (.int .i64 lk)).drew) gl 3 (intA (t.low.set oa lk)) from intA_set HF1.out.low oa lk)
            have HHy := Lib.hid (show Blk ((wx.setCell ⟨gl, oa, none⟩ (.int .i64 lk)).drew) gh 3 (intA t.hangs) from HF1.out.hangs.far (p := ⟨gl, oa, none⟩) (by dsimp only; omega))
            have HOy := Lib.hid (show ((wx.setCell ⟨gl, oa, none⟩ (.int .i64 lk)).drew).ownsRow qb 3 1 (.slice AO t.order.length cO) t.order.length (t.order.map (fun (k : Nat) => Value.int .i64 (k : Int))) from ownFar HOw.out (q := ⟨gl, oa, none⟩) (by dsimp only; omega) (.int .i64 lk))
            have HBy := Lib.hid (show Below base w ((wx.setCell ⟨gl, oa, none⟩ (.int .i64 lk)).drew) from (HB1.out.setCell (p := ⟨gl, oa, none⟩) hd1 (.int .i64 lk)).drew)
            have hky := (World.cell?_setCell_other wx ⟨gl, oa, none⟩ ⟨gl, k, none⟩ (.int .i64 lk) (by intro e; injection e with _ e _; exact o5 e)).trans kc
            replace hky : ((wx.setCell ⟨gl, oa, none⟩ (.int .i64 lk)).drew).cell? ⟨gl, k, none⟩ = some (.int .i64 lk) := hky
            clear lf ll lc kc HPb HOw
            generalize (wx.setCell ⟨gl, oa, none⟩ (.int .i64 lk)).drew = wy at *
            refine hK.out _ _ (fun _ => HSS.out _ HPy.out hky) ?_
            clear hK K
            refine wpAnyG_one (i := 20) (by kernel_rfl) rfl rfl fun K hK => ?_
            go_simp
            refine hK.out _ _ (fun _ => HSS.out _ HPy.out hky) ?_
            clear hK K
            have hc := intA_cell HHy.out (show oa < t.hangs.length by rw [ok.hl]; exact o1)
            have hf2 := HHy.out.frozen oa
            have hl := HHy.out.lt
            refine wpAnyG_one (i := 21) (by kernel_rfl) rfl rfl fun K hK => ?_
            go_simp
            refine hK.out _ _ (fun h => absurd h (by decide)) ?_
            clear hK K
            refine wpAnyG_done (by kernel_rfl) ?_
            have HPz := Lib.hid (show Blk (wy.setCell ⟨gh, oa, none⟩ (.int .i64 (i : Int))) p 103 #[.slice (some ⟨gl, 0, none⟩) N N, .slice (some ⟨gh, 0, none⟩) N N, .slice AO t.order.length cO] from HPy.out.far (p := ⟨gh, oa, none⟩) (by dsimp only; omega))
            have HLz := Lib.hid (show Blk (wy.setCell ⟨gh, oa, none⟩ (.int .i64 (i : Int))) gl 3 (intA (t.low.set oa lk)) from HLy.out.far (p := ⟨gh, oa, none⟩) (by dsimp only; omega))
            have HHz := Lib.hid (show Blk (wy.setCell ⟨gh, oa, none⟩ (.int .i64 (i : Int))) gh 3 (intA (t.hangs.set oa (i : Int))) from intA_set HHy.out oa (i : Int))
            have HOz := Lib.hid (show (wy.setCell ⟨gh, oa, none⟩ (.int .i64 (i : Int))).ownsRow qb 3 1 (.slice AO t.order.length cO) t.order.length (t.order.map (fun (k : Nat) => Value.int .i64 (k : Int))) from ownFar HOy.out (q := ⟨gh, oa, none⟩) (by dsimp only; omega) (.int .i64 (i : Int)))
            have HBz := Lib.hid (show Below base w (wy.setCell ⟨gh, oa, none⟩ (.int .i64 (i : Int))) from HBy.out.setCell (p := ⟨gh, oa, none⟩) hd2 (.int .i64 (i : Int)))
            clear hc hf2 hl hky HPy HLy HHy HOy HBy HSS HSd HInv
            generalize wy.setCell ⟨gh, oa, none⟩ (.int .i64 (i : Int)) = wz at *
            have HAl := Lib.hid (show Below wz.heap.size wz (wz.alloc (.cells #[.int .i64 (oa : Int)] 3)) from pa pr)
            have HOa := Lib.hid (ownPast HAl.out HOz.out)
            have HCa := Lib.hid (cells_newO wz 3 #[.int .i64 (oa : Int)])
            have p2 := HPz.out.cellAt 2 rfl
            have pl := HPz.out.lt
            go_wp2_with (at_builtin; go_must (refine wpList_append_cells _ rfl (.tmp 66) (.tmp 68) _ rfl qb 3 j0 _ 1 8 Try.underlying42 hj0 hjz hjs hjb rfl (by omega) (.slice AO t.order.length cO) t.order.length (t.order.map (fun (k : Nat) => Value.int .i64 (k : Int))) rfl HOa.out (wz.heap.size + 1) (some ⟨wz.heap.size, 0, none⟩) 1 1 [.int .i64 (oa : Int)] rfl HCa.out rfl (by simp [Value.oneCell']) (by simp only [maxLen]; omega) (by omega) (by have := HBz.out.size; simp; omega) ?_); intro v4 w4 hown4 hg4 _; obtain ⟨A4, c4, rfl, hc4, _⟩ := own_form hown4; have HP4 := Lib.hid ((HPz.out.past HAl.out).grown hg4 (fun e => by have := (HOa.out.lt p e.symm).1; omega)); have HL4 := Lib.hid ((HLz.out.past HAl.out).grown hg4 (fun e => by have := (HOa.out.lt gl e.symm).1; omega)); have HH4 := Lib.hid ((HHz.out.past HAl.out).grown hg4 (fun e => by have := (HOa.out.lt gh e.symm).1; omega)); have HB4 := Lib.hid (((HBz.out.trans (HAl.out.mono (Nat.le_trans hbw HBz.out.size)))).grown hg4 (by have := HBz.out.size; have := HAl.out.size; omega) (fun q hq => by have := (HOa.out.lt q hq).1; omega)); have HO4 := Lib.hid hown4; clear p2 pl hown4 hg4; have p2 := HP4.out.cellAt 2 rfl; have pf := HP4.out.frozen 2; have pl := HP4.out.lt)
            go_roundw
            case rel => exact ⟨i + 1, by go_num, by omega, by
              rw [HE.out]
              refine ⟨⟨.slice A4 (t.order.length + 1) c4, by simpa using HP4.out.set_ 2 (.slice A4 (t.order.length + 1) c4), ?_⟩, HL4.out.far (p := ⟨p, 2, none⟩) (by dsimp only; omega), HH4.out.far (p := ⟨p, 2, none⟩) (by dsimp only; omega)⟩
              have h := ownFar HO4.out (q := ⟨p, 2, none⟩) (by dsimp only; omega) (.slice A4 (t.order.length + 1) c4)
              dsimp only
              rw [List.length_append, List.length_singleton, List.map_append]
              exact h, HB4.out.setCell (p := ⟨p, 2, none⟩) (by dsimp only; omega) _⟩
            case measure => simp [intOf]; omega
        · have z3 : (t.low.getD oa 0 == -1) = false := by simpa using h0
          have HE := Lib.hid (show growTo bs k (i + 1) s = t by rw [HNx.out, HSt.out, if_neg HXn.out, if_neg h0])
          generalize t.low.getD oa 0 = lv at *
          rcases HAB.out with hxa | ⟨hxa, hxb⟩
          · have z1 : (xa != (k : Int)) = false := by simpa using hxa
            clear hxa
            go_wp2
            go_roundw
            case rel => exact ⟨i + 1, by go_num, by omega, by rw [HE.out]; exact HF1.out, HB1.out⟩
            case measure => simp [intOf]; omega
          · have z1 : (xa != (k : Int)) = true := by simpa using hxa
            have z2 : (xb != (k : Int)) = false := by simpa using hxb
            clear hxa hxb
            go_wp2
            go_roundw
            case rel => exact ⟨i + 1, by go_num, by omega, by rw [HE.out]; exact HF1.out, HB1.out⟩
            case measure => simp [intOf]; omega
    · have hie : i = n := by omega
      subst hie
      go_wp2
      go_end0
      exact ⟨rfl, by rw [HGr.out]; exact HF.out, HQ.out⟩
end Go.Proofs.Ytapegimghfflhaa
end
