/- Contract: the iterator over all choices of a stock, each one in the same slice (package design). -/
import Derived.Test.YtnfbdkdjoekifaaGreatDoorOd3
import Derived.Test.YtnfbdkdjoekifaaGreatDoorOa3
import Derived.Test.YtnfbdkdjoekifaaGreatDoorOa1

section
namespace Go.Proofs.YtnfbdkdjoekifaaGreatDoor
open Go.RowKit Go.Shelf
attribute [local go_sem] Oper.semAt_some undef

def slotN (sl : List (List DPart)) : List Nat := sl.map List.length
theorem slotN_at {sl : List (List DPart)} {i : Nat} (h : i < sl.length) : (slotN sl).getD i 0 = (sl.getD i []).length := by
  unfold slotN
  simp [List.getD, h]
theorem slotN_len (sl : List (List DPart)) : (slotN sl).length = sl.length := List.length_map _
theorem choi_last {ns : List Nat} {idx : Nat} (hp : ∀ n ∈ ns, 0 < n) (h : idx < (allC ns).length) (hm : ∀ j, j < ns.length → ((allC ns).getD idx []).getD j 0 + 1 = (ns.getD j 0 : Int)) : idx + 1 = (allC ns).length := by
  rcases Nat.lt_or_ge (idx + 1) (allC ns).length with h1 | h1
  · have h2 := (allC_steps hp).at_ h1
    have hl := (allC_mem.1 (show (allC ns).getD idx [] ∈ allC ns by simp [List.getD, h])).1
    rw [next_none hl hm] at h2
    cases h2
  · omega
theorem choi_next {ns : List Nat} {idx i : Nat} (hp : ∀ n ∈ ns, 0 < n) (h : idx < (allC ns).length) (hi : i < ns.length) (hm : ∀ j, i < j → j < ns.length → ((allC ns).getD idx []).getD j 0 + 1 = (ns.getD j 0 : Int)) (hlt : ((allC ns).getD idx []).getD i 0 + 1 < (ns.getD i 0 : Int)) :
    idx + 1 < (allC ns).length ∧ ∀ j, j < ns.length → ((allC ns).getD (idx + 1) []).getD j 0 = if j < i then ((allC ns).getD idx []).getD j 0 else if j = i then ((allC ns).getD idx []).getD i 0 + 1 else 0 := by
  have hl := (allC_mem.1 (show (allC ns).getD idx [] ∈ allC ns by simp [List.getD, h])).1
  have hn := next_some hl hi hm hlt
  have h1 : idx + 1 < (allC ns).length := by
    rcases Nat.lt_or_ge (idx + 1) (allC ns).length with h1 | h1
    · exact h1
    · have := (allC_steps hp).last (i := idx) (by omega)
      rw [hn] at this
      cases this
  refine ⟨h1, fun j hj => ?_⟩
  have h2 := (allC_steps hp).at_ h1
  rw [hn] at h2
  injection h2 with h2
  rw [← h2]
  generalize (allC ns).getD idx [] = xs at *
  have ht : (xs.take i).length = i := by rw [List.length_take]; omega
  by_cases hji : j < i
  · rw [if_pos hji]
    simp [List.getD_eq_getElem?_getD, List.getElem?_append_left (show j < (xs.take i).length by omega), hji]
  · rw [if_neg hji]
    rw [List.getD_eq_getElem?_getD, List.getElem?_append_right (by omega), ht]
    by_cases hj2 : j = i
    · rw [if_pos hj2, hj2, Nat.sub_self]; rfl
    · rw [if_neg hj2]
      obtain ⟨k, hk⟩ : ∃ k, j - i = k + 1 := ⟨j - i - 1, by omega⟩
      rw [hk, List.getElem?_cons_succ, List.getElem?_replicate]
      split <;> rfl

/-- What holds of the memory of the iterator. -/
structure ChoW (B : Nat) (sl : List (List DPart)) (SA : Option Addr) (n c : Nat) (idle price : Int) (J : List RowI → World → Prop) (g bS : Nat) (p : List RowI) (xs : List Int) (wr : World) : Prop where
  x : IntBlk wr g xs
  j : J p wr
  s : Blk wr bS 80 #[.slice SA n c, .int .i64 idle, .int .i64 price]
  r : SlotsIn B wr SA sl
  b : B ≤ wr.heap.size
section
variable {B : Nat} {sl : List (List DPart)} {SA : Option Addr} {n c : Nat} {idle price : Int} {J : List RowI → World → Prop} {g bS B1 : Nat} {p : List RowI} {xs : List Int} {wr w1 : World}
theorem ChoW.past (h : ChoW B sl SA n c idle price J g bS p xs wr) (hJ : AbidesG B1 (fun k => k = g ∨ k = bS) J) (hb : Below wr.heap.size wr w1) : ChoW B sl SA n c idle price J g bS p xs w1 :=
  ⟨Blk.past h.x hb, abG_past hJ h.j hb, h.s.past hb, h.r.below (hb.mono h.b), Nat.le_trans h.b hb.size⟩
theorem ChoW.set (h : ChoW B sl SA n c idle price J g bS p xs wr) (hJ : AbidesG B1 (fun k => k = g ∨ k = bS) J) (hs : bS ≠ g) (hg : B ≤ g) (k : Nat) (v : Int) : ChoW B sl SA n c idle price J g bS p (xs.set k v) (wr.setCell ⟨g, k, none⟩ (.int .i64 v)) :=
  ⟨h.x.set k v, abG_set hJ (.inl rfl) h.j k (.int .i64 v), h.s.far (p := ⟨g, k, none⟩) (u := .int .i64 v) hs, h.r.below ⟨rfl, rfl, rfl, by simp, fun i hi => Below.heap_setCell wr ⟨g, k, none⟩ _ i (by dsimp only; omega)⟩, by simpa using h.b⟩
theorem ChoW.keep {q : List RowI} (h : ChoW B sl SA n c idle price J g bS p xs wr) (hk : KeepG (fun k => k < B) (fun k => k = g ∨ k = bS) wr w1) (hj : J q w1) : ChoW B sl SA n c idle price J g bS q xs w1 :=
  ⟨(hk.mine g (.inl rfl)).trans h.x, hj, (hk.mine bS (.inr rfl)).trans h.s, h.r.keep (fun b _o hb => World.cell?_of_block (hk.own b hb)), Nat.le_trans h.b hk.size⟩
end
def ChoiSt (L : List (List Int)) (B : Nat) (sl : List (List DPart)) (SA : Option Addr) (n c : Nat) (idle price : Int) (J : List RowI → World → Prop) (g bS m : Nat) (wr : World) : Prop :=
  ∃ (idx : Nat) (p : List RowI), m + idx = L.length ∧ idx < L.length ∧ p.map (·.2) = L.take idx ∧ ChoW B sl SA n c idle price J g bS p (L.getD idx []) wr

section
attribute [local go_sem] ints_made
set_option maxRecDepth 100000 in
set_option maxHeartbeats 8000000 in
theorem choices_seq (m B : Nat) (sl : List (List DPart)) (SA : Option Addr) (n c : Nat) (idle price : Int) (w0 : World) (hr : SlotsIn B w0 SA sl) (hB : B ≤ w0.heap.size) (hn : sl.length = n) (hs : SlotsOk sl) :
    SeqG m Tryz.prog 34 #[.agg #[.slice SA n c, .int .i64 idle, .int .i64 price]] #[] (rowEnc n) (RowPG (allC (slotN sl)) w0.heap.size n) (fun G _ => KeepG (fun k => k < B) G)
      (fun xs => xs.map (·.2) = allC (slotN sl)) (fun pre => pre ≠ [] ∧ pre.map (·.2) <+: allC (slotN sl)) (allC (slotN sl)).length w0 := by
  intro l J Jx W hW hJ hJx hY h0
  obtain ⟨bS, hbS⟩ : ∃ bS, bS = W.heap.size := ⟨_, rfl⟩
  obtain ⟨g, hg⟩ : ∃ g, g = W.heap.size + 1 := ⟨_, rfl⟩
  have hG : ∀ k, (k = g ∨ k = bS) → W.heap.size ≤ k := fun k hk => by omega
  have hgS : bS ≠ g := by omega
  have hgB : w0.heap.size ≤ g := by have := hW.size; omega
  have hgB2 : B ≤ g := by omega
  have hn5 : n ≤ 5 := by rw [← hn]; exact hs.1.2
  have hn1000 : n ≤ 1000 := by omega
  have hn1 : 0 < n := by rw [← hn]; exact hs.1.1
  have HG := Lib.hid hG
  have HY := Lib.hid (hY _ hG)
  have HJ := Lib.hid (hJ _ hG)
  have H0 := Lib.hid (h0 _ hG)
  have HR := Lib.hid (hr.below (hW.mono hB))
  have HN := Lib.hid hn
  have HSl := Lib.hid hs
  have HPos := Lib.hid (show ∀ k ∈ slotN sl, 0 < k from fun k hk => by
    obtain ⟨l, hl, rfl⟩ := List.mem_map.1 hk
    exact (hs.2 l hl).1.1)
  have hWB := Nat.le_trans hB hW.size
  clear hY hJ hJx h0 hG hr hn hs
  refine callsIn_of_wp Tryz.func34 rfl trivial ?_ rfl
  simp only [undef, Tryz.ntmps34, List.size_toArray, List.length_cons, List.length_nil, Nat.reduceAdd, Nat.reduceSub, Array.replicate_succ, Array.replicate_zero, List.push_toArray, List.append_toArray, List.nil_append, List.cons_append]
  gi_wp2
  have hhead : (allC (slotN sl)).getD 0 [] = List.replicate n 0 ∧ 0 < (allC (slotN sl)).length := by
    obtain ⟨r, hr⟩ := allC_head HPos.out
    rw [hr, slotN_len, HN.out]
    exact ⟨rfl, by simp⟩
  have HS0 := Lib.hid (show ChoiSt (allC (slotN sl)) B sl SA n c idle price (J fun k => k = g ∨ k = bS) g bS (allC (slotN sl)).length ((W.alloc (.cells #[.slice SA n c, .int .i64 idle, .int .i64 price] 80)).alloc (.cells (Array.replicate n (Value.int .i64 0)) 3)) from
    ⟨0, [], rfl, hhead.2, by simp, by
      rw [hhead.1]
      refine ⟨?_, abG_past HJ.out H0.out (pa (pa pr)), by rw [hbS]; exact (Blk.newAt rfl).alloc, HR.out.below ((pa (pa pr)).mono hWB), Nat.le_trans hWB (pa (pa pr) : Below W.heap.size W ((W.alloc (.cells #[.slice SA n c, .int .i64 idle, .int .i64 price] 80)).alloc (.cells (Array.replicate n (Value.int .i64 0)) 3))).size⟩
      rw [hg]; unfold IntBlk; rw [ints_zero]; exact Blk.newAt (by simp)⟩)
  rw [← hg, ← hbS]
  generalize ((W.alloc (.cells #[.slice SA n c, .int .i64 idle, .int .i64 price] 80)).alloc (.cells (Array.replicate n (Value.int .i64 0)) 3)) = v at *
  clear hg hbS hhead H0 HR
  gi_loopw [] (fun wr => ∃ m, ChoiSt (allC (slotN sl)) B sl SA n c idle price (J fun k => k = g ∨ k = bS) g bS m wr) (fun wr => leastOf fun m => ChoiSt (allC (slotN sl)) B sl SA n c idle price (J fun k => k = g ∨ k = bS) g bS m wr)
  case atStart => exact ⟨_, HS0.out⟩
  case round =>
    clear HS0
    obtain ⟨M, hM⟩ : ∃ M, M = leastOf fun m => ChoiSt (allC (slotN sl)) B sl SA n c idle price (J fun k => k = g ∨ k = bS) g bS m wr := ⟨_, rfl⟩
    have hMs := leastOf_spec hrel
    rw [← hM] at hMs ⊢
    obtain ⟨⟨idx, p, hidx, hil, hp, hX⟩, _⟩ := hMs
    clear hrel hM
    obtain ⟨xs, hxs⟩ : ∃ xs, xs = (allC (slotN sl)).getD idx [] := ⟨_, rfl⟩
    have hmem : xs ∈ allC (slotN sl) := by rw [hxs]; simp [List.getD, hil]
    have hxl : xs.length = n := by rw [(allC_mem.1 hmem).1, slotN_len, HN.out]
    have hbd := (allC_mem.1 hmem).2
    rw [slotN_len, HN.out] at hbd
    rw [← hxs] at hX
    have hnext := fun k (hk : k < n) (hm : ∀ j, k < j → j < n → xs.getD j 0 + 1 = ((slotN sl).getD j 0 : Int)) (hlt : xs.getD k 0 + 1 < ((slotN sl).getD k 0 : Int)) => choi_next HPos.out (idx := idx) (i := k) hil (by rw [slotN_len, HN.out]; exact hk) (by rw [← hxs, slotN_len, HN.out]; exact hm) (by rw [← hxs]; exact hlt)
    have hlast := fun (hm : ∀ j, j < n → xs.getD j 0 + 1 = ((slotN sl).getD j 0 : Int)) => choi_last HPos.out (idx := idx) hil (by rw [← hxs, slotN_len, HN.out]; exact hm)
    rw [← hxs, slotN_len, HN.out] at hnext
    have hpx : (p ++ [(((some ⟨g, 0, none⟩, n), xs) : RowI)]).map (·.2) = (allC (slotN sl)).take (idx + 1) := by
      rw [take_one hil (d := []), ← hxs, List.map_append, hp]; rfl
    have hplen : p.length < (allC (slotN sl)).length := by
      have := congrArg List.length hp
      rw [List.length_map, List.length_take] at this
      omega
    have hpr : RowPG (allC (slotN sl)) w0.heap.size n (fun k => k = g ∨ k = bS) ((some ⟨g, 0, none⟩, n), xs) wr := ⟨⟨hX.x.ints _ hgB, hxl, Nat.le_refl _⟩, (fun k hk => by
      rcases hk with hk | hk
      · rw [hk]; exact Blk.lt hX.x
      · rw [hk]; exact hX.s.lt), hmem⟩
    have hstop : ∀ W', Jx (fun k => k = g ∨ k = bS) (p ++ [((some ⟨g, 0, none⟩, n), xs)]) W' → ∃ G : Nat → Prop, (∀ k, G k → W.heap.size ≤ k) ∧ ((∃ xs, xs.map (·.2) = allC (slotN sl) ∧ J G xs W') ∨ ∃ pre, (pre ≠ [] ∧ pre.map (·.2) <+: allC (slotN sl)) ∧ Jx G pre W') :=
      fun W' h => ⟨_, HG.out, .inr ⟨_, ⟨by simp, by rw [hpx]; exact List.take_prefix _ _⟩, h⟩⟩
    have HStop := Lib.hid hstop
    have HNext := Lib.hid hnext
    have HLast := Lib.hid hlast
    have HPx := Lib.hid hpx
    have HPr := Lib.hid hpr
    have HX := Lib.hid hX
    have HXl := Lib.hid hxl
    have HBd := Lib.hid hbd
    have HIdx := Lib.hid hidx
    have HIl := Lib.hid hil
    have HPl := Lib.hid hplen
    obtain ⟨fn, tmps, assign, body, hy, hR⟩ := HY.out p ((some ⟨g, 0, none⟩, n), xs) wr HX.out.j HPr.out HPl.out
    unfold rowEnc at hy
    clear hstop hnext hlast hpx hpr hX hxl hbd hidx hil hplen hxs hmem hp
    gi_wp2
    refine ⟨(fun h => nomatch h), (roundIn_any hR).mono ?_⟩
    rintro e W3 (⟨rfl, hJ3, hk3⟩ | ⟨rfl, hJx3⟩)
    · have HX3 := Lib.hid (HX.out.keep hk3 hJ3)
      clear HX hJ3 hk3 hR hy HPr
      gi_wp2
      generalize p ++ [(((some ⟨g, 0, none⟩, n), xs) : RowI)] = p' at *
      obtain ⟨wp, hwp⟩ : ∃ wp : World, wp = W3 := ⟨_, rfl⟩
      subst hwp
      gi_loopw [5] (fun ix wr => ∃ (k : Nat) (ys : List Int), ix = .int .i64 ((k : Int) - 1) ∧ k ≤ n ∧ ys.length = n ∧ (∀ j, j < k → ys.getD j 0 = xs.getD j 0) ∧ (∀ j, k ≤ j → j < n → ys.getD j 0 = 0) ∧ (∀ j, k ≤ j → j < n → xs.getD j 0 + 1 = ((slotN sl).getD j 0 : Int)) ∧ ChoW B sl SA n c idle price (J fun k => k = g ∨ k = bS) g bS p' ys wr) (fun ix _ => (intOf ix + 1).toNat)
      case atStart => exact ⟨n, xs, rfl, Nat.le_refl _, HXl.out, fun j _ => rfl, fun j h1 h2 => absurd h2 (by omega), fun j h1 h2 => absurd h2 (by omega), HX3.out⟩
      case round =>
        clear HX3
        obtain ⟨y, ys, hix, hy1, hyl, hlo, hze, htop, hX⟩ := hrel
        have HX := Lib.hid hX
        have HTop := Lib.hid htop
        have HLo := Lib.hid hlo
        have HZe := Lib.hid hze
        have HYl := Lib.hid hyl
        clear hX htop hlo hze hyl
        rcases y with _ | y
        · have e0 : (((0 : Nat) : Int) - 1) = -1 := rfl
          rw [e0] at hix
          subst hix
          clear e0
          have hend := HLast.out (fun j hj => HTop.out j (Nat.zero_le _) hj)
          have HEnd := Lib.hid (show p'.map (·.2) = allC (slotN sl) by rw [HPx.out, hend, List.take_length])
          clear hend
          gi_wp2
          refine region_belowIn (fun _ => trivial) rfl (fun _ _ _ _ h => callsIn_wide.2 h) 16 follows_mixed (by kernel_rfl) (by kernel_rfl) ?_
          intro C hC
          simp only [List.take_succ_cons, List.take_zero, List.drop_succ_cons, List.drop_zero]
          repeat (first
            | ((with_reducible refine quiet_plain rfl (fun K hK => ?_)); (focus (apply quiet_val; (focus (intro w' hw; obtain ⟨hcq, hfq⟩ := bcell ((hC.out _).1 hw); go_simp; (first | done | rfl))); (simp only [Act.put, List.setIfInBounds_toArray, List.set_cons_succ, List.set_cons_zero]); (with_reducible refine hK _ ?_); clear hK K)))
            | ((with_reducible refine quiet_skip ?_ ?_); (focus (first | (simp [Region.wanted, yielded]; done) | (simp [Region.wanted, yielded, undef]; done))); simp only [Act.put, List.setIfInBounds_toArray, List.set_cons_succ, List.set_cons_zero])
            | ((with_reducible refine quiet_go ?_ (fun K hK => ?_)); (focus (first | (simp [Region.wanted, yielded]; done) | (simp [Region.wanted, yielded, undef]; done))); (focus (apply quiet_val; (focus (intro w' hw; obtain ⟨hcq, hfq⟩ := bcell ((hC.out _).1 hw); go_simp; (first | done | rfl))); (simp only [Act.put, List.setIfInBounds_toArray, List.set_cons_succ, List.set_cons_zero]); (with_reducible refine hK _ ?_); clear hK K))))
          refine wpQuiet_nil ?_
          intro w1 hb1
          replace hb1 := (hC.out _).1 hb1
          clear hC C
          obtain ⟨hc1, hf1⟩ := bcell hb1
          have HX1 := Lib.hid (HX.out.past HJ.out hb1)
          gi_wp2
          refine bodyPost_ret (results_none rfl _ _ _) rfl ?_
          exact ⟨⟨_, rfl⟩, ⟨_, HG.out, .inl ⟨p', HEnd.out, HX1.out.j⟩⟩⟩
        · have e : (((y + 1 : Nat) : Int) - 1) = (y : Int) := by omega
          rw [e] at hix
          subst hix
          clear e
          have hyn : y < n := by omega
          obtain ⟨z, hz⟩ : ∃ z, z = xs.getD y 0 := ⟨_, rfl⟩
          have c1 := HX.out.x.cell (j := y) (by rw [HYl.out]; exact hyn)
          rw [HLo.out y (by omega), ← hz] at c1
          have hzb := HBd.out y hyn
          have hys : y < sl.length := by rw [HN.out]; exact hyn
          obtain ⟨b, off, hSA, hb, hct⟩ := HX.out.r.at_ hys
          obtain ⟨A2, c2, u0, _, _⟩ := hct y hys
          have hln := slotN_at hys
          rw [← hz] at hzb
          rw [hln] at hzb
          have hll := HSl.out.2 _ (show sl.getD y [] ∈ sl by simp [List.getD, hys])
          have hl6 := hll.1.2
          generalize hlen : (sl.getD y []).length = ln at *
          have HZ := Lib.hid hz
          have HLn := Lib.hid hln
          have hf1 := Blk.frozen HX.out.x y
          have hgl := Blk.lt HX.out.x
          have s0 := HX.out.s.cellAt 0 rfl
          have sl1 := HX.out.s.lt
          have hbw : b < wr.heap.size := Nat.lt_of_lt_of_le hb HX.out.b
          have y0 : (0 : Int) ≤ (y : Int) := by omega
          have y1 : (y : Int) < (n : Int) := by omega
          clear hz hct hln hll hlen
          by_cases heq : z = (ln : Int) - 1
          · have hbq : (z == (ln : Int) - 1) = true := by simpa using heq
            have HEq := Lib.hid heq
            clear heq
            subst hSA
            gi_wp2
            refine region_belowIn (fun _ => trivial) rfl (fun _ _ _ _ h => callsIn_wide.2 h) 16 follows_mixed (by kernel_rfl) (by kernel_rfl) ?_
            intro C hC
            simp only [List.take_succ_cons, List.take_zero, List.drop_succ_cons, List.drop_zero]
            repeat (first
              | ((with_reducible refine quiet_plain rfl (fun K hK => ?_)); (focus (apply quiet_val; (focus (intro w' hw; obtain ⟨hcq, hfq⟩ := bcell ((hC.out _).1 hw); go_simp; (first | done | rfl))); (simp only [Act.put, List.setIfInBounds_toArray, List.set_cons_succ, List.set_cons_zero]); (with_reducible refine hK _ ?_); clear hK K)))
              | ((with_reducible refine quiet_skip ?_ ?_); (focus (first | (simp [Region.wanted, yielded]; done) | (simp [Region.wanted, yielded]; done))); simp only [Act.put, List.setIfInBounds_toArray, List.set_cons_succ, List.set_cons_zero])
              | ((with_reducible refine quiet_go ?_ (fun K hK => ?_)); (focus (first | (simp [Region.wanted, yielded]; done) | (simp [Region.wanted, yielded, undef]; done))); (focus (apply quiet_val; (focus (intro w' hw; obtain ⟨hcq, hfq⟩ := bcell ((hC.out _).1 hw); go_simp; (first | done | rfl))); (simp only [Act.put, List.setIfInBounds_toArray, List.set_cons_succ, List.set_cons_zero]); (with_reducible refine hK _ ?_); clear hK K))))
            refine wpQuiet_nil ?_
            intro w1 hb1
            replace hb1 := (hC.out _).1 hb1
            clear hC C
            obtain ⟨hc1, hf1⟩ := bcell hb1
            have HX1 := Lib.hid (HX.out.past HJ.out hb1)
            clear HX c1 hf1 hgl s0 sl1 u0 hbw hb1 hc1
            have c1 := HX1.out.x.cell (j := y) (by rw [HYl.out]; exact hyn)
            rw [HLo.out y (by omega), ← HZ.out] at c1
            have hf2 := Blk.frozen HX1.out.x y
            have hgl := Blk.lt HX1.out.x
            gi_wp2
            have HX2 := Lib.hid (HX1.out.set HJ.out hgS hgB2 y 0)
            go_roundw
            case rel => exact ⟨y, ys.set y 0, rfl, by omega, by rw [List.length_set]; exact HYl.out, (fun j hj => by
              rw [set_getD (by rw [HYl.out]; exact hyn), if_neg (by omega)]
              exact HLo.out j (by omega)), (fun j h1 h2 => by
              rw [set_getD (by rw [HYl.out]; exact hyn)]
              rcases Nat.lt_or_ge y j with h | h
              · rw [if_neg (by omega)]; exact HZe.out j (by omega) h2
              · rw [if_pos (by omega)]), (fun j h1 h2 => by
              rcases Nat.lt_or_ge y j with h | h
              · exact HTop.out j (by omega) h2
              · rw [show j = y by omega, ← HZ.out, HLn.out]; have := HEq.out; omega), HX2.out⟩
            case measure => simp [intOf] <;> omega
          · have hbq : (z == (ln : Int) - 1) = false := by simpa using heq
            have HEq := Lib.hid heq
            clear heq
            subst hSA
            gi_wp2
            refine region_belowIn (fun _ => trivial) rfl (fun _ _ _ _ h => callsIn_wide.2 h) 16 follows_mixed (by kernel_rfl) (by kernel_rfl) ?_
            intro C hC
            simp only [List.take_succ_cons, List.take_zero, List.drop_succ_cons, List.drop_zero]
            repeat (first
              | ((with_reducible refine quiet_plain rfl (fun K hK => ?_)); (focus (apply quiet_val; (focus (intro w' hw; obtain ⟨hcq, hfq⟩ := bcell ((hC.out _).1 hw); go_simp; (first | done | rfl))); (simp only [Act.put, List.setIfInBounds_toArray, List.set_cons_succ, List.set_cons_zero]); (with_reducible refine hK _ ?_); clear hK K)))
              | ((with_reducible refine quiet_skip ?_ ?_); (focus (first | (simp [Region.wanted, yielded]; done) | (simp [Region.wanted, yielded]; done))); simp only [Act.put, List.setIfInBounds_toArray, List.set_cons_succ, List.set_cons_zero])
              | ((with_reducible refine quiet_go ?_ (fun K hK => ?_)); (focus (first | (simp [Region.wanted, yielded]; done) | (simp [Region.wanted, yielded, undef]; done))); (focus (apply quiet_val; (focus (intro w' hw; obtain ⟨hcq, hfq⟩ := bcell ((hC.out _).1 hw); go_simp; (first | done | rfl))); (simp only [Act.put, List.setIfInBounds_toArray, List.set_cons_succ, List.set_cons_zero]); (with_reducible refine hK _ ?_); clear hK K))))
            refine wpQuiet_nil ?_
            intro w1 hb1
            replace hb1 := (hC.out _).1 hb1
            clear hC C
            obtain ⟨hc1, hf1⟩ := bcell hb1
            have HX1 := Lib.hid (HX.out.past HJ.out hb1)
            have hzlt : z + 1 < (ln : Int) := by have := HEq.out; omega
            have HNx := Lib.hid (HNext.out y hyn (fun j h1 h2 => HTop.out j (by omega) h2) (by rw [← HZ.out, HLn.out]; exact hzlt))
            clear HX c1 hf1 hgl s0 sl1 u0 hbw hb1 hc1
            have c1 := HX1.out.x.cell (j := y) (by rw [HYl.out]; exact hyn)
            rw [HLo.out y (by omega), ← HZ.out] at c1
            have hf2 := Blk.frozen HX1.out.x y
            have hgl := Blk.lt HX1.out.x
            gi_wp2
            have HX2 := HX1.out.set HJ.out hgS hgB2 y (z + 1)
            have hys2 : ys.set y (z + 1) = (allC (slotN sl)).getD (idx + 1) [] := by
              have hm : (allC (slotN sl)).getD (idx + 1) [] ∈ allC (slotN sl) := by simp [List.getD, HNx.out.1]
              refine list_of (by rw [List.length_set, HYl.out, (allC_mem.1 hm).1, slotN_len, HN.out]) fun j hj => ?_
              rw [List.length_set, HYl.out] at hj
              rw [set_getD (by rw [HYl.out]; exact hyn), HNx.out.2 j hj]
              rcases Nat.lt_trichotomy j y with h | h | h
              · rw [if_neg (by omega), if_pos h]; exact HLo.out j (by omega)
              · rw [if_pos (by omega), if_neg (by omega), if_pos h, HZ.out]
              · rw [if_neg (by omega), if_neg (by omega), if_neg (by omega)]; exact HZe.out j (by omega) hj
            rw [hys2] at HX2
            have HX3 := Lib.hid HX2
            clear HX2 hys2
            go_roundw
            case rel => exact ⟨M - 1, idx + 1, p', by have := HIdx.out; have := HIl.out; omega, HNx.out.1, HPx.out, HX3.out⟩
            case measure =>
              have h9 := (leastOf_spec (p := fun m => ChoiSt (allC (slotN sl)) B sl (some ⟨b, off, none⟩) n c idle price (J fun k => k = g ∨ k = bS) g bS m (w1.setCell ⟨g, y, none⟩ (.int .i64 (z + 1)))) ⟨M - 1, idx + 1, p', by have := HIdx.out; have := HIl.out; omega, HNx.out.1, HPx.out, HX3.out⟩).2 (M - 1) ⟨idx + 1, p', by have := HIdx.out; have := HIl.out; omega, HNx.out.1, HPx.out, HX3.out⟩
              have := HIdx.out
              have := HIl.out
              omega
    · gi_wp2
      refine bodyPost_ret (results_none rfl _ _ _) rfl ?_
      exact ⟨⟨_, rfl⟩, HStop.out _ hJx3⟩
end

end Go.Proofs.YtnfbdkdjoekifaaGreatDoor
end
