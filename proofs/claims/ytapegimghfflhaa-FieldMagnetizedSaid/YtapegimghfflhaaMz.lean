/- Contracts: solved and its closure (package field). -/
import Derived.Test.YtapegimghfflhaaMy

section
namespace Go.Proofs.Ytapegimghfflhaa
open Go.RowKit

theorem two_at0 (A1 A2 : Option Addr) (n1 c1 n2 c2 : Nat) (W : World) : (Instr.index 112 (.agg #[.slice A1 n1 c1, .slice A2 n2 c2]) (.int .i64 0)).run Try.prog W = .ok (.slice A1 n1 c1) W := by kernel_rfl
theorem two_at1 (A1 A2 : Option Addr) (n1 c1 n2 c2 : Nat) (W : World) : (Instr.index 112 (.agg #[.slice A1 n1 c1, .slice A2 n2 c2]) (.int .i64 1)).run Try.prog W = .ok (.slice A2 n2 c2) W := by kernel_rfl
theorem quo_at {l : List Int} {g : Int} {k : Nat} (h : k < l.length) : (l.map (·.tdiv g)).take (k + 1) = (l.map (·.tdiv g)).take k ++ [(l.getD k 0).tdiv g] := by
  have h2 : k < (l.map (·.tdiv g)).length := by rw [List.length_map]; exact h
  rw [List.take_succ_eq_append_getElem h2]
  simp [List.getD, h]
theorem ownInts {w : World} {base n c : Nat} {A : Option Addr} {l : List Int} (ho : w.ownsRow base 3 1 (.slice A n c) n (l.map (Value.int .i64))) : IntsIn w.heap.size w A l := (cellsIn_of_own ho).ints
set_option maxHeartbeats 4000000 in
set_option maxRecDepth 100000 in
theorem reduced_any (B : Nat) (l : List Int) (A : Option Addr) (n c gb : Nat) (g : Int) (w : World) (hl : IntsIn B w A l) (hB : B ≤ w.heap.size) (hn : l.length = n) (hm : n ≤ 1000) (hg : Blk w gb 3 #[.int .i64 g]) (hg0 : g ≠ 0) (hbd : ∀ j, -9000000000000000000 ≤ l.getD j 0 ∧ l.getD j 0 ≤ 9000000000000000000) :
    Calls Try.prog 55 #[.slice A n c, .pointer (some ⟨gb, 0, none⟩)] w fun e w' => ∃ A2 c2, e = .returned (.slice A2 n c2) ∧ w'.ownsRow w.heap.size 3 1 (.slice A2 n c2) n ((l.map (·.tdiv g)).map (Value.int .i64)) ∧ Below w.heap.size w w' := by
  obtain ⟨j0, hj0, hjz, hjs, hjb⟩ := info_of (show (Try.prog.info? 3).map (fun i => (i.zero, i.size, i.bytes)) = some (some (.int .i64 0), 1, 8) by kernel_rfl)
  have HX := Lib.hid (fun W (hW : Below w.heap.size w W) => hl.below (hW.mono hB))
  have HG := Lib.hid (fun W (hW : Below w.heap.size w W) => (show W.cell? ⟨gb, 0, none⟩ = some (.int .i64 g) ∧ gb < W.heap.size from ⟨(hg.past hW).cellAt 0 rfl, (hg.past hW).lt⟩))
  have HN := Lib.hid hn
  have HBd := Lib.hid hbd
  have z0 : (g == 0) = false := by simpa using hg0
  clear hl hn hg hbd
  go_enter Try.func55, Try.ntmps55
  go_wp2
  go_loopw [4, 9] (fun sv iv wr => ∃ (k : Nat) (A' : Option Addr) (c' : Nat), iv = .int .i64 (k : Int) ∧ k ≤ n ∧ sv = .slice A' k c' ∧ wr.ownsRow w.heap.size 3 1 (.slice A' k c') k (((l.map (·.tdiv g)).take k).map (Value.int .i64)) ∧ Below w.heap.size w wr) (fun _ iv _ => n - (intOf iv).toNat)
  case atStart => exact ⟨0, none, 0, rfl, Nat.zero_le _, rfl, World.ownsRow_nil _ _ _ _, pr⟩
  case round =>
    obtain ⟨k, A', c', rfl, hk, rfl, hown, hq⟩ := hrel
    have HOw := Lib.hid hown
    have HQ := Lib.hid hq
    by_cases hlt : k < n
    · have hk' : k < l.length := by rw [HN.out]; exact hlt
      obtain ⟨b, off, rfl, hb1, hc1⟩ := (HX.out wr hq).at_ hk'
      have u0 := hc1 k hk'
      obtain ⟨x0, xl⟩ := HG.out wr hq
      have HTk := Lib.hid (quo_at (g := g) hk')
      have hbw : b < wr.heap.size := Nat.lt_of_lt_of_le hb1 (Nat.le_trans hB hq.size)
      have hqs := hq.size
      have k0 : (0 : Int) ≤ (k : Int) := by omega
      have k1 : (k : Int) < (n : Int) := by omega
      have hbd := HBd.out k
      clear hc1 hown hq
      generalize l.getD k 0 = x at *
      have hbq := quot_bd (g := g) (C := 9000000000000000000) (by omega : -9000000000000000000 ≤ x ∧ x ≤ 9000000000000000000)
      have w2 : wrap64 (x.tdiv g) = x.tdiv g := w64 (by omega)
      have w2i : IntKind.i64.wrap (x.tdiv g) = x.tdiv g := IntWalk.i64_in _ (by omega)
      clear hbq hbd
      have HAl := Lib.hid (show Below wr.heap.size wr (wr.alloc (.cells #[.int .i64 (x.tdiv g)] 3)) from pa pr)
      have HOa := Lib.hid (ownPast HAl.out HOw.out)
      have HCa := Lib.hid (cells_newO wr 3 #[.int .i64 (x.tdiv g)])
      go_wp2_with (at_builtin; go_must (refine wpList_append_cells _ rfl (.tmp 13) (.tmp 17) _ rfl w.heap.size 3 j0 _ 1 8 Try.underlying42 hj0 hjz hjs hjb rfl (by omega) (.slice A' k c') k (((l.map (·.tdiv g)).take k).map (Value.int .i64)) rfl HOa.out (wr.heap.size + 1) (some ⟨wr.heap.size, 0, none⟩) 1 1 [.int .i64 (x.tdiv g)] rfl HCa.out rfl (by simp [Value.oneCell']) (by simp only [maxLen]; omega) (by omega) (by simp; omega) ?_); intro v4 w4 hown4 hg4 _; obtain ⟨A4, c4, rfl, hc4, _⟩ := own_form hown4; have HB4 := Lib.hid (pg (pt HQ.out HAl.out) HOa.out (Nat.le_refl _) hg4); have HO4 := Lib.hid hown4; clear hown4 hg4)
      go_roundw
      case rel => exact ⟨k + 1, A4, c4, by go_num, by omega, rfl, by rw [HTk.out, List.map_append]; exact HO4.out, HB4.out⟩
      case measure => simp [intOf]; omega
    · obtain rfl : k = n := by omega
      have HI := Lib.hid (show wr.ownsRow w.heap.size 3 1 (.slice A' k c') k ((l.map (·.tdiv g)).map (Value.int .i64)) from by
        have e : (l.map (·.tdiv g)).take k = l.map (·.tdiv g) := List.take_of_length_le (by rw [List.length_map, HN.out]; exact Nat.le_refl _)
        rw [e] at hown
        exact hown)
      clear hown hq
      go_wp2
      go_ret
      exact ⟨A', c', rfl, HI.out, HQ.out⟩
theorem ownDown {w : World} {base base' size n : Nat} {e : TypeId} {v : Value} {xs : List Value} (ho : w.ownsRow base e size v n xs) (h : base' ≤ base) : w.ownsRow base' e size v n xs := by
  obtain ⟨h1, h2⟩ := ho
  refine ⟨h1, ?_⟩
  rcases h2 with h2 | ⟨g', cap, cur, h3, h4, h5⟩
  · exact .inl h2
  · exact .inr ⟨g', cap, cur, h3, Nat.le_trans h h4, h5⟩
theorem solution_size : (Try.prog.info? 44).map (·.size) = some 3 := by kernel_rfl
theorem order_at {od : List Nat} {k : Nat} (h : k < od.length) : (od.map (fun (k : Nat) => (k : Int))).getD k 0 = ((od.getD k 0 : Nat) : Int) := by simp [List.getD, h]

set_option maxHeartbeats 8000000 in
set_option maxRecDepth 100000 in
theorem solved_any (B N f : Nat) (bs : List FBr) (w : World) (hok : NetOk N bs) (hF : FldAt B N bs f w) (hB : B ≤ w.heap.size) :
    Calls Try.prog 35 #[.pointer (some ⟨f, 0, none⟩)] w fun e w' => ∃ A1 A2 c1 c2, e = .returned (.agg #[.int .i64 (solvedV bs N).1, .slice A1 N c1, .slice A2 bs.length c2]) ∧ w'.ownsRow w.heap.size 3 1 (.slice A1 N c1) N ((solvedV bs N).2.1.map (Value.int .i64)) ∧ w'.ownsRow w.heap.size 3 1 (.slice A2 bs.length c2) bs.length ((solvedV bs N).2.2.map (Value.int .i64)) ∧ Below w.heap.size w w' := by
  obtain ⟨A, gl, gh, AO, LA, RA, c, cl, ch, cO, lc, rc, hb, hfB, hA, hlo, hha, hod, hlp, hre⟩ := hF.ex
  have hm := hok.m
  have hN := hok.n
  have HOk := Lib.hid hok
  have HBk := Lib.hid hb
  have HA := Lib.hid (fun W (hW : Below w.heap.size w W) => hA.below (hW.mono hB))
  have HHa := Lib.hid (fun W (hW : Below w.heap.size w W) => hha.below (hW.mono hB))
  have HOd := Lib.hid (fun W (hW : Below w.heap.size w W) => hod.below (hW.mono hB))
  have HRe := Lib.hid (fun W (hW : Below w.heap.size w W) => hre.below (hW.mono hB))
  have HX := Lib.hid (fun W (hW : Below w.heap.size w W) => (show W.cell? ⟨f, 0, none⟩ = some (.int .i64 (N : Int)) ∧ W.cell? ⟨f, 1, none⟩ = some (.slice A bs.length c) ∧ W.cell? ⟨f, 3, none⟩ = some (.slice gh N ch) ∧ W.cell? ⟨f, 4, none⟩ = some (.slice AO (forestV bs N).order.length cO) ∧ W.cell? ⟨f, 6, none⟩ = some (.slice RA bs.length rc) ∧ f < W.heap.size from ⟨(hb.past hW).cellAt 0 rfl, (hb.past hW).cellAt 1 rfl, (hb.past hW).cellAt 3 rfl, (hb.past hW).cellAt 4 rfl, (hb.past hW).cellAt 6 rfl, (hb.past hW).lt⟩))
  have HOw := Lib.hid (fun W (hW : Below w.heap.size w W) => ownFd_any B f N bs A bs.length c _ _ _ _ _ W (hb.past hW) (hA.below (hW.mono hB)) (Nat.le_trans hB hW.size) rfl (by omega))
  have hL := loopsV_ok hok
  have HFx := Lib.hid (fun (W : World) (TA : Option Addr) (tc : Nat) (hW : Below w.heap.size w W) (hT : IntsIn W.heap.size W TA (trnV bs)) => fluxesFd_any W.heap.size f N A bs.length c _ _ _ (loopsV bs N) (relV bs) (trnV bs) LA RA TA (loopsV bs N).length lc rc tc bs.length W (hb.past hW) ((hlp.below (hW.mono hB)).more (Nat.le_trans hB hW.size)) ((hre.below (hW.mono hB)).more (Nat.le_trans hB hW.size)) hT (Nat.le_refl _) (by unfold relV; rw [List.length_map]) (trn_len bs) hm rfl hL.cnt
    (fun i j => by
      by_cases hi : i < (loopsV bs N).length
      · exact hL.bd _ (by rw [List.getD_eq_getElem?_getD, List.getElem?_eq_getElem hi]; exact List.getElem_mem hi) j
      · rw [show (loopsV bs N).getD i [] = [] by simp [List.getD, Nat.le_of_not_lt hi]]
        simp)
    (fun j => by
      by_cases hj : j < bs.length
      · rw [rel_at hj]; exact (br_small hok j).1
      · rw [getD_out _ (by unfold relV; rw [List.length_map]; omega)]; decide) (trn_small hok) (own_small hok))
  obtain ⟨hfd, hfb⟩ := flx_bdL hok (own_small hok)
  have hd1 := (own_small hok).den.1
  have HFb := Lib.hid hfb
  have HPt := Lib.hid (fun k j => pot_bd (N := N) hok (hs := (forestV bs N).hangs) (forestV bs N).order hfb hfd k j)
  have HDr := Lib.hid (dropP_bd (N := N) hok hfb hfd)
  have HPv := Lib.hid (show potV bs N = potTo bs N (forestV bs N).hangs (fluxesV (loopsV bs N) (relV bs) (trnV bs)).1 (fluxesV (loopsV bs N) (relV bs) (trnV bs)).2 (forestV bs N).order (forestV bs N).order.length from rfl)
  have HRg := Lib.hid (show redG bs N = gcdTo (gcdTo (fluxesV (loopsV bs N) (relV bs) (trnV bs)).2 (potV bs N) N) (fluxesV (loopsV bs N) (relV bs) (trnV bs)).1 bs.length from by unfold redG; rw [potV_len, flx_len, trn_len])
  have HRp := Lib.hid (red_pos hok)
  have HSv := Lib.hid (solved_is bs N)
  have HFl := Lib.hid (show (fluxesV (loopsV bs N) (relV bs) (trnV bs)).1.length = bs.length from by rw [flx_len]; exact trn_len bs)
  have HDn := Lib.hid (show 1 ≤ (fluxesV (loopsV bs N) (relV bs) (trnV bs)).2 ∧ (fluxesV (loopsV bs N) (relV bs) (trnV bs)).2 ≤ 10000000000 from ⟨hd1, hfd.2⟩)
  have hfst := forest_ok hok
  have hOl := hfst.len
  have HHl := Lib.hid hfst.hl
  have HNx := Lib.hid (forest_hung hok).next
  have HMm := Lib.hid (fun k (hk : k < (forestV bs N).order.length) => (show (forestV bs N).order.getD k 0 < N from ((hfst.mem _).1 (by rw [List.getD_eq_getElem?_getD, List.getElem?_eq_getElem hk]; exact List.getElem_mem hk)).1))
  have HOr := Lib.hid (fun k (hk : k < (forestV bs N).order.length) => order_at hk)
  have hmk := fun W => ints_made N (by omega) W
  obtain ⟨x0, x1, x3, x4, x6, xl⟩ := HX.out _ (pa pr : Below w.heap.size w (w.alloc (.cells #[.int .i64 0, .slice none 0 0, .slice none 0 0] 44)))
  have Z0 := Lib.hid (show Blk (w.alloc (.cells #[.int .i64 0, .slice none 0 0, .slice none 0 0] 44)) w.heap.size 44 #[.int .i64 0, .slice none 0 0, .slice none 0 0] from Blk.newAt rfl)
  have HB0 := Lib.hid (show Below w.heap.size w (w.alloc (.cells #[.int .i64 0, .slice none 0 0, .slice none 0 0] 44)) from pa pr)
  clear hb hfB hA hlo hha hod hlp hre hF hfb hfd hd1 hfst hL hok x0 x1 x3 x4 x6 xl
  go_enter Try.func35, Try.ntmps35
  go_wp2_with (first
    | (go_at_call 37; (go_must (refine (HOw.out _ HB0.out).mono ?_)); rintro e w1 ⟨TA, tc, rfl, ht1, hb1⟩; have HT1 := Lib.hid ht1; have HB1 := Lib.hid (pt HB0.out hb1); have Z1 := Lib.hid (Z0.out.past hb1); clear ht1 hb1)
    | (go_at_call 54; (go_must (refine (HFx.out _ _ _ HB1.out HT1.out).mono ?_)); rintro e w2 ⟨o, rfl, hv2, ho2, hb2⟩; have HV2 := Lib.hid hv2; have HO2 := Lib.hid ho2; have HB2 := Lib.hid (pt HB1.out hb2); have HT2 := Lib.hid ((HT1.out.below hb2).more hb2.size); have Z2 := Lib.hid (Z1.out.past hb2); clear hv2 ho2 hb2; obtain ⟨x0, x1, x3, x4, x6, xl⟩ := HX.out _ HB2.out))
  clear x0 x1 x3 x4 x6 xl hmk HOw HFx Z0 HB0 Z1 HT1 HB1
  generalize fluxesV (loopsV bs N) (relV bs) (trnV bs) = FV at *
  obtain ⟨F, D⟩ := FV
  dsimp only at *
  generalize (forestV bs N).hangs = hs at *
  generalize (forestV bs N).order = od at *
  have HBp := Lib.hid (show Below w2.heap.size w2 (w2.alloc (.cells (Array.replicate N (Value.int .i64 0)) 3)) from pa pr)
  have HP0 := Lib.hid (show Blk (w2.alloc (.cells (Array.replicate N (Value.int .i64 0)) 3)) w2.heap.size 3 (intA (potTo bs N hs F D od 0)) from by
    rw [show potTo bs N hs F D od 0 = List.replicate N 0 from rfl, ← intA_rep]
    exact Blk.newAt rfl)
  generalize w2.alloc (.cells (Array.replicate N (Value.int .i64 0)) 3) = w3 at *
  generalize hpbe : w2.heap.size = pb at *
  have HPe := Lib.hid hpbe
  have HPw := Lib.hid (show w.heap.size ≤ pb from by rw [← hpbe]; exact HB2.out.size)
  have HOp := Lib.hid (show o < pb from by rw [← hpbe]; exact HV2.out.lt)
  clear hpbe
  go_loopw [38] (fun kv wr => ∃ k : Nat, kv = .int .i64 (k : Int) ∧ k ≤ od.length ∧ Blk wr pb 3 (intA (potTo bs N hs F D od k)) ∧ Below pb w2 wr) (fun kv _ => od.length - (intOf kv).toNat)
  case atStart => exact ⟨0, rfl, Nat.zero_le _, HP0.out, HBp.out⟩
  case round =>
    clear HP0 HBp
    obtain ⟨k, rfl, hk, hp, hq⟩ := hrel
    have HP := Lib.hid hp
    have HQ := Lib.hid hq
    have HW := Lib.hid (show Below w.heap.size w wr from HB2.out.trans (hq.mono HPw.out))
    clear hp hq
    by_cases hlt : k < od.length
    · have hatN := HMm.out k hlt
      have HAt := Lib.hid (HOr.out k hlt)
      have HNa := Lib.hid (HNx.out (od.getD k 0) hatN)
      have HSt := Lib.hid (show potTo bs N hs F D od (k + 1) = potStep bs hs F D (od.getD k 0) (potTo bs N hs F D od k) from rfl)
      obtain ⟨b1, o1, rfl, hb1, hc1⟩ := (HOd.out wr HW.out).at_ (show k < (od.map (fun (k : Nat) => (k : Int))).length by rw [List.length_map]; exact hlt)
      have u1 := hc1 k (by rw [List.length_map]; exact hlt)
      rw [HAt.out] at u1
      generalize od.getD k 0 = at_ at *
      obtain ⟨b2, o2, rfl, hb2, hc2⟩ := (HHa.out wr HW.out).at_ (show at_ < hs.length by rw [HHl.out]; exact hatN)
      have u2 := hc2 at_ (by rw [HHl.out]; exact hatN)
      have hBw := Nat.le_trans hB HW.out.size
      have hb1w : b1 < wr.heap.size := Nat.lt_of_lt_of_le hb1 hBw
      have hb2w : b2 < wr.heap.size := Nat.lt_of_lt_of_le hb2 hBw
      obtain ⟨x0, x1, x3, x4, x6, xl⟩ := HX.out wr HW.out
      have k0 : (0 : Int) ≤ (k : Int) := by omega
      have k1 : (k : Int) < (od.length : Int) := by omega
      have a0 : (0 : Int) ≤ (at_ : Int) := by omega
      have a1 : (at_ : Int) < (N : Int) := by omega
      have HLp := Lib.hid (show (potTo bs N hs F D od k).length = N from pot_len ..)
      have HPb := Lib.hid (HPt.out k)
      clear hc1 hc2
      by_cases hm1 : hs.getD at_ 0 = -1
      · have HS2 := Lib.hid (show potTo bs N hs F D od (k + 1) = potTo bs N hs F D od k from by rw [HSt.out, potStep, if_pos hm1])
        have z1 : (hs.getD at_ 0 == -1) = true := by rw [hm1]; rfl
        generalize hs.getD at_ 0 = h at *
        clear hm1
        go_wp2
        go_roundw
        case rel => exact ⟨k + 1, by go_num, by omega, by rw [HS2.out]; exact HP.out, HQ.out⟩
        case measure => simp [intOf]; omega
      · obtain ⟨i, hi, hil, hoth, _, hab⟩ := HNa.out.resolve_left hm1
        have HS2 := Lib.hid (show potTo bs N hs F D od (k + 1) = if (bs.getD i default).a = (at_ : Int) then (potTo bs N hs F D od k).set at_ ((potTo bs N hs F D od k).getD (bs.getD i default).b.toNat 0 + ((bs.getD i default).r * F.getD i 0 - (bs.getD i default).t * D)) else (potTo bs N hs F D od k).set at_ ((potTo bs N hs F D od k).getD (bs.getD i default).a.toNat 0 - ((bs.getD i default).r * F.getD i 0 - (bs.getD i default).t * D)) from by rw [HSt.out, potStep, if_neg hm1, hi, Int.toNat_natCast])
        have z1 : ((i : Int) == -1) = false := by rw [beq_eq_false_iff_ne]; omega
        rw [hi] at u2
        clear hm1 hi HSt HNa HAt
        obtain ⟨bb, ob, rfl, hbb, hcb⟩ := brs_at (HA.out wr HW.out) hil
        obtain ⟨v0, v1, v2, v3⟩ := hcb i hil
        have hbbw : bb < wr.heap.size := Nat.lt_of_lt_of_le hbb hBw
        obtain ⟨b3, o3, rfl, hb3, hc3⟩ := (HRe.out wr HW.out).at_ (show i < (relV bs).length by unfold relV; rw [List.length_map]; exact hil)
        have u3 := hc3 i (by unfold relV; rw [List.length_map]; exact hil)
        rw [rel_at hil] at u3
        obtain ⟨b4, o4, rfl, hb4, hc4⟩ := HT2.out.at_ (show i < (trnV bs).length by rw [trn_len]; exact hil)
        have u4 := (World.cell?_of_block (HQ.out.block b4 hb4)).trans (hc4 i (by rw [trn_len]; exact hil))
        rw [trn_get hil] at u4
        have hb3w : b3 < wr.heap.size := Nat.lt_of_lt_of_le hb3 hBw
        have hb4w : b4 < wr.heap.size := Nat.lt_trans hb4 HP.out.lt
        have u5 := (World.cell?_of_block (HQ.out.block o HOp.out)).trans (intA_cell HV2.out (show i < F.length by rw [HFl.out]; exact hil))
        have how : o < wr.heap.size := Nat.lt_trans HOp.out HP.out.lt
        obtain ⟨q1, q2, q3, _, _⟩ := HOk.out.br _ (getD_memF hil)
        have p1 := HDr.out i
        unfold dropP at p1
        have i0 : (0 : Int) ≤ (i : Int) := by omega
        have i1 : (i : Int) < (bs.length : Int) := by omega
        clear hcb hc3 hc4 hbb hb3 hb4 hab hoth
        generalize bs.getD i default = x at *
        obtain ⟨xa, xb, xr, xt⟩ := x
        dsimp only at *
        obtain ⟨ya, hya⟩ : ∃ y : Nat, (y : Int) = xa := ⟨xa.toNat, by omega⟩
        obtain ⟨yb, hyb⟩ : ∃ y : Nat, (y : Int) = xb := ⟨xb.toNat, by omega⟩
        subst hya
        subst hyb
        rw [Int.toNat_natCast, Int.toNat_natCast] at HS2
        have p2 := HPb.out ya
        have p3 := HPb.out yb
        have HYa := Lib.hid (show ya < (potTo bs N hs F D od k).length from by rw [HLp.out]; omega)
        have HYb := Lib.hid (show yb < (potTo bs N hs F D od k).length from by rw [HLp.out]; omega)
        have HYt := Lib.hid (show at_ < (potTo bs N hs F D od k).length from by rw [HLp.out]; omega)
        have hk5 : k ≤ 5 := by omega
        generalize potTo bs N hs F D od k = P at *
        generalize F.getD i 0 = fl at *
        have ra : wrap64 (xr * fl) = xr * fl := w64 (by omega)
        have ra1 : IntKind.i64.wrap (xr * fl) = xr * fl := IntWalk.i64_in _ (by omega)
        have rb : wrap64 (xt * D) = xt * D := w64 (by omega)
        have rb1 : IntKind.i64.wrap (xt * D) = xt * D := IntWalk.i64_in _ (by omega)
        have rc : wrap64 (xr * fl - xt * D) = xr * fl - xt * D := w64 (by omega)
        have rc1 : IntKind.i64.wrap (xr * fl - xt * D) = xr * fl - xt * D := IntWalk.i64_in _ (by omega)
        have rd : wrap64 (P.getD yb 0 + (xr * fl - xt * D)) = P.getD yb 0 + (xr * fl - xt * D) := w64 (by omega)
        have rd1 : IntKind.i64.wrap (P.getD yb 0 + (xr * fl - xt * D)) = P.getD yb 0 + (xr * fl - xt * D) := IntWalk.i64_in _ (by omega)
        have re : wrap64 (P.getD ya 0 - (xr * fl - xt * D)) = P.getD ya 0 - (xr * fl - xt * D) := w64 (by omega)
        have re1 : IntKind.i64.wrap (P.getD ya 0 - (xr * fl - xt * D)) = P.getD ya 0 - (xr * fl - xt * D) := IntWalk.i64_in _ (by omega)
        clear p1 p2 p3
        have HBn := Lib.hid (show Below wr.heap.size wr (wr.alloc (.cells #[.int .i64 (ya : Int), .int .i64 (yb : Int), .int .i64 xr, .int .i64 xt] 79)) from pa pr)
        have HN1 := Lib.hid (show Blk (wr.alloc (.cells #[.int .i64 (ya : Int), .int .i64 (yb : Int), .int .i64 xr, .int .i64 xt] 79)) wr.heap.size 79 #[.int .i64 (ya : Int), .int .i64 (yb : Int), .int .i64 xr, .int .i64 xt] from Blk.newAt rfl)
        have HP1 := Lib.hid (HP.out.past HBn.out)
        go_wp2
        refine region_below 19 follows_mixed (by kernel_rfl) ?_
        intro C hC
        simp only [List.take_succ_cons, List.take_zero, List.drop_succ_cons, List.drop_zero]
        repeat (first
          | ((with_reducible refine quiet_plain rfl (fun K hK => ?_)); (focus (apply quiet_val; (focus (intro w' hw; obtain ⟨hcq, hfq⟩ := bcell ((hC.out _).1 hw); go_simp; (first | done | rfl))); (simp only [Act.put, List.setIfInBounds_toArray, List.set_cons_succ, List.set_cons_zero]); (with_reducible refine hK _ ?_); clear hK K)))
          | ((with_reducible refine quiet_skip ?_ ?_); (focus (first | (simp [Region.wanted, yielded]; done) | (simp [Region.wanted, yielded, undef]; done))); simp only [Act.put, List.setIfInBounds_toArray, List.set_cons_succ, List.set_cons_zero])
          | ((with_reducible refine quiet_go ?_ (fun K hK => ?_)); (focus (first | (simp [Region.wanted, yielded]; done) | (simp [Region.wanted, yielded, undef]; done))); (focus (apply quiet_val; (focus (intro w' hw; obtain ⟨hcq, hfq⟩ := bcell ((hC.out _).1 hw); go_simp; (first | done | rfl))); (simp only [Act.put, List.setIfInBounds_toArray, List.set_cons_succ, List.set_cons_zero]); (with_reducible refine hK _ ?_); clear hK K))))
        refine wpQuiet_nil ?_
        intro w1 hb1
        replace hb1 := (hC.out _).1 hb1
        clear hC C
        obtain ⟨hc1, hf1⟩ := bcell hb1
        have HN2 := Lib.hid (HN1.out.past hb1)
        have HP2 := Lib.hid (HP1.out.past hb1)
        have HQ2 := Lib.hid (show Below pb w2 w1 from HQ.out.trans ((pt HBn.out hb1).mono (Nat.le_of_lt HP.out.lt)))
        clear hc1 hf1 hb1
        clear u1 u2 u3 u4 u5 v0 v1 v2 v3 hb1w hb2w hbbw hb3w hb4w how x0 x1 x3 x4 x6 xl HBn HN1 HP1 HP HQ HW
        have x0 := HN2.out.cellAt 0 rfl
        have x1 := HN2.out.cellAt 1 rfl
        have xl := HN2.out.lt
        have yl := HP2.out.lt
        have yf := HP2.out.frozen at_
        have y1 := intA_cell HP2.out HYa.out
        have y2 := intA_cell HP2.out HYb.out
        have y3 := intA_cell HP2.out HYt.out
        generalize xr * fl - xt * D = dr at *
        by_cases hxa : (ya : Int) = (at_ : Int)
        · have z3 : ((ya : Int) == (at_ : Int)) = true := by simpa using hxa
          have HS3 := Lib.hid (show potTo bs N hs F D od (k + 1) = P.set at_ (P.getD yb 0 + dr) from by rw [HS2.out, if_pos hxa])
          have HR := Lib.hid (intA_set HP2.out at_ (P.getD yb 0 + dr))
          clear hxa y1
          generalize P.getD yb 0 = pv at *
          go_wp2
          go_roundw
          case rel => exact ⟨k + 1, by go_num, by omega, by rw [HS3.out]; exact HR.out, HQ2.out.setCell (p := ⟨pb, at_, none⟩) (Nat.le_refl _) _⟩
          case measure => simp [intOf]; omega
        · have z3 : ((ya : Int) == (at_ : Int)) = false := by simpa using hxa
          have HS3 := Lib.hid (show potTo bs N hs F D od (k + 1) = P.set at_ (P.getD ya 0 - dr) from by rw [HS2.out, if_neg hxa])
          have HR := Lib.hid (intA_set HP2.out at_ (P.getD ya 0 - dr))
          clear hxa y2
          generalize P.getD ya 0 = pv at *
          go_wp2
          go_roundw
          case rel => exact ⟨k + 1, by go_num, by omega, by rw [HS3.out]; exact HR.out, HQ2.out.setCell (p := ⟨pb, at_, none⟩) (Nat.le_refl _) _⟩
          case measure => simp [intOf]; omega
    · have z5 : ¬ (k : Int) < (od.length : Int) := by omega
      have HPz := Lib.hid (show Blk wr pb 3 (intA (potV bs N)) from by
        rw [HPv.out]
        have h := HP.out
        rwa [show k = od.length by omega] at h)
      have HVz := Lib.hid (show Blk wr o 3 (intA F) from (HQ.out.block o HOp.out).trans HV2.out)
      have HZz := Lib.hid (show Blk wr w.heap.size 44 #[.int .i64 0, .slice none 0 0, .slice none 0 0] from Z2.out.past (by rw [HPe.out]; exact HQ.out))
      obtain ⟨hDb, hDc⟩ := HDn.out
      have HPl := Lib.hid (show (potV bs N).length = N from potV_len ..)
      have HPq := Lib.hid (show ∀ j, -100000000000000000 ≤ (potV bs N).getD j 0 ∧ (potV bs N).getD j 0 ≤ 100000000000000000 from fun j => by
        rw [HPv.out]
        have := HPt.out od.length j
        omega)
      have HFq := Lib.hid (show ∀ j, -100000000000000000 ≤ F.getD j 0 ∧ F.getD j 0 ≤ 100000000000000000 from fun j => by
        have := HFb.out j
        omega)
      generalize potV bs N = P at *
      have HBg := Lib.hid (show Below wr.heap.size wr (wr.alloc (.cells #[.int .i64 D] 3)) from pa pr)
      have HG0 := Lib.hid (show Blk (wr.alloc (.cells #[.int .i64 D] 3)) wr.heap.size 3 #[.int .i64 (gcdTo D P 0)] from Blk.newAt rfl)
      have HP5 := Lib.hid (HPz.out.past HBg.out)
      have HV5 := Lib.hid (HVz.out.past HBg.out)
      have HZ5 := Lib.hid (HZz.out.past HBg.out)
      have HW5 := Lib.hid (HW.out.trans (HBg.out.mono HW.out.size))
      have hpg : pb < wr.heap.size := HPz.out.lt
      have hog : o < wr.heap.size := HVz.out.lt
      have hzg : w.heap.size < wr.heap.size := HZz.out.lt
      clear HP HQ HW HPz HVz HZz HBg
      go_wp2
      generalize wr.alloc (.cells #[.int .i64 D] 3) = w5 at *
      generalize wr.heap.size = gb at *
      have n0 : (0 : Int) ≤ (N : Int) := by omega
      have hx0 := fun W => two_at0 (some ⟨pb, 0, none⟩) (some ⟨o, 0, none⟩) N N bs.length bs.length W
      have hx1 := fun W => two_at1 (some ⟨pb, 0, none⟩) (some ⟨o, 0, none⟩) N N bs.length bs.length W
      refine wp_loop_rounds 3 ?_
      rw [rounds_succ]
      go_wp2
      go_loopw [113] (fun jv wr => ∃ j : Nat, jv = .int .i64 (j : Int) ∧ j ≤ N ∧ Blk wr gb 3 #[.int .i64 (gcdTo D P j)] ∧ Below gb w5 wr) (fun jv _ => N - (intOf jv).toNat)
      case atStart => exact ⟨0, rfl, Nat.zero_le _, HG0.out, Below.refl _ _⟩
      case round =>
        clear HG0
        obtain ⟨j, rfl, hj, hg, hq⟩ := hrel
        have HG := Lib.hid hg
        have HQ := Lib.hid hq
        clear hg hq
        by_cases hlj : j < N
        · have y0 := (World.cell?_of_block (HQ.out.block pb hpg)).trans (intA_cell HP5.out (show j < P.length by rw [HPl.out]; exact hlj))
          have ylt : pb < wr.heap.size := Nat.lt_trans hpg HG.out.lt
          have x0 := HG.out.cellAt 0 rfl
          have xl := HG.out.lt
          have hgp := gcdTo_pos (show 0 < D by omega) P j
          have hgq : gcdTo D P j ≤ D := hgp.2
          have hgp1 := hgp.1
          have hxb := HPq.out j
          have HNg := Lib.hid (show gcdTo D P (j + 1) = gcdI (gcdTo D P j) (P.getD j 0) from rfl)
          have j0 : (0 : Int) ≤ (j : Int) := by omega
          have j1 : (j : Int) < (N : Int) := by omega
          clear hgp
          generalize gcdTo D P j = gx at *
          generalize P.getD j 0 = px at *
          have HDv := Lib.hid (fun W => divisorFd_any gx px (by unfold WF; omega) (by unfold SmF; omega) (fun _ => by unfold SmF; omega) W)
          clear hgq hgp1 hxb
          go_wp2_with (go_at_call 49; (go_must (refine (HDv.out _).mono ?_)); rintro e w7 ⟨rfl, hb7⟩; have HG7 := Lib.hid (HG.out.past hb7); have HQ7 := Lib.hid (HQ.out.trans (hb7.mono (Nat.le_of_lt xl))); clear hb7 x0 xl y0 ylt; have x0 := HG7.out.cellAt 0 rfl; have xf := HG7.out.frozen 0; have xl := HG7.out.lt)
          go_roundw
          case rel => exact ⟨j + 1, by go_num, by omega, by rw [HNg.out]; exact HG7.out.set_ 0 (.int .i64 (gcdI gx px)), HQ7.out.setCell (p := ⟨gb, 0, none⟩) (Nat.le_refl _) _⟩
          case measure => simp [intOf]; omega
        · have z6 : ¬ (j : Int) < (N : Int) := by omega
          have HGd := Lib.hid (show Blk wr gb 3 #[.int .i64 (gcdTo D P N)] from by
            have h := HG.out
            rwa [show j = N by omega] at h)
          clear HG
          go_wp2
          rw [rounds_succ]
          go_wp2
          have HQ6 := Lib.hid HQ.out
          clear HQ
          go_loopw [113] (fun jv wr => ∃ j : Nat, jv = .int .i64 (j : Int) ∧ j ≤ bs.length ∧ Blk wr gb 3 #[.int .i64 (gcdTo (gcdTo D P N) F j)] ∧ Below gb w5 wr) (fun jv _ => bs.length - (intOf jv).toNat)
          case atStart => exact ⟨0, rfl, Nat.zero_le _, HGd.out, HQ6.out⟩
          case round =>
            clear HGd HQ6
            obtain ⟨j, rfl, hj, hg, hq⟩ := hrel
            have HG := Lib.hid hg
            have HQ := Lib.hid hq
            clear hg hq
            by_cases hlj : j < bs.length
            · have y0 := (World.cell?_of_block (HQ.out.block o hog)).trans (intA_cell HV5.out (show j < F.length by rw [HFl.out]; exact hlj))
              have ylt : o < wr.heap.size := Nat.lt_trans hog HG.out.lt
              have x0 := HG.out.cellAt 0 rfl
              have xl := HG.out.lt
              have hgp := gcdTo_pos (gcdTo_pos (show 0 < D by omega) P N).1 F j
              have hgq : gcdTo (gcdTo D P N) F j ≤ D := Int.le_trans hgp.2 (gcdTo_pos (show 0 < D by omega) P N).2
              have hgp1 := hgp.1
              have hxb := HFq.out j
              have HNg := Lib.hid (show gcdTo (gcdTo D P N) F (j + 1) = gcdI (gcdTo (gcdTo D P N) F j) (F.getD j 0) from rfl)
              have j0 : (0 : Int) ≤ (j : Int) := by omega
              have j1 : (j : Int) < (bs.length : Int) := by omega
              clear hgp
              generalize gcdTo (gcdTo D P N) F j = gx at *
              generalize F.getD j 0 = px at *
              have HDv := Lib.hid (fun W => divisorFd_any gx px (by unfold WF; omega) (by unfold SmF; omega) (fun _ => by unfold SmF; omega) W)
              clear hgq hgp1 hxb
              go_wp2_with (go_at_call 49; (go_must (refine (HDv.out _).mono ?_)); rintro e w7 ⟨rfl, hb7⟩; have HG7 := Lib.hid (HG.out.past hb7); have HQ7 := Lib.hid (HQ.out.trans (hb7.mono (Nat.le_of_lt xl))); clear hb7 x0 xl y0 ylt; have x0 := HG7.out.cellAt 0 rfl; have xf := HG7.out.frozen 0; have xl := HG7.out.lt)
              go_roundw
              case rel => exact ⟨j + 1, by go_num, by omega, by rw [HNg.out]; exact HG7.out.set_ 0 (.int .i64 (gcdI gx px)), HQ7.out.setCell (p := ⟨gb, 0, none⟩) (Nat.le_refl _) _⟩
              case measure => simp [intOf]; omega
            · have z6 : ¬ (j : Int) < (bs.length : Int) := by omega
              have HGd := Lib.hid (show Blk wr gb 3 #[.int .i64 (gcdTo (gcdTo D P N) F bs.length)] from by
                have h := HG.out
                rwa [show j = bs.length by omega] at h)
              clear HG
              go_wp2
              rw [rounds_succ]
              go_wp2
              have HPe2 := Lib.hid (show Blk wr pb 3 (intA P) from (HQ.out.block pb hpg).trans HP5.out)
              have HVe2 := Lib.hid (show Blk wr o 3 (intA F) from (HQ.out.block o hog).trans HV5.out)
              have HZe2 := Lib.hid (show Blk wr w.heap.size 44 #[.int .i64 0, .slice none 0 0, .slice none 0 0] from (HQ.out.block _ hzg).trans HZ5.out)
              have HWe2 := Lib.hid (show Below w.heap.size w wr from HW5.out.trans (HQ.out.mono (Nat.le_of_lt hzg)))
              have HGr := HGd.out
              rw [← HRg.out] at HGr
              have HGq := Lib.hid HGr
              clear HGd HGr HQ
              have hgp := HRp.out
              generalize redG bs N = G at *
              have hqb := quot_bd (x := D) (g := G) (C := 10000000000) (by omega)
              have ra : wrap64 (D.tdiv G) = D.tdiv G := w64 (by omega)
              have rai : IntKind.i64.wrap (D.tdiv G) = D.tdiv G := IntWalk.i64_in _ (by omega)
              have rz : (G == 0) = false := by simp; omega
              have hg0 : G ≠ 0 := by omega
              have HR1 := Lib.hid (fun W (hW : Below wr.heap.size wr W) => reduced_any wr.heap.size P (some ⟨pb, 0, none⟩) N N gb G W ((intA_ints HPe2.out).below hW) hW.size HPl.out (by omega) (HGq.out.past hW) hg0 (fun j => by have := HPq.out j; omega))
              have HR2 := Lib.hid (fun W (hW : Below wr.heap.size wr W) => reduced_any wr.heap.size F (some ⟨o, 0, none⟩) bs.length bs.length gb G W ((intA_ints HVe2.out).below hW) hW.size HFl.out (by omega) (HGq.out.past hW) hg0 (fun j => by have := HFq.out j; omega))
              have HSS := Lib.hid (show ∀ W, Below wr.heap.size wr W → W.cell? ⟨gb, 0, none⟩ = some (.int .i64 G) ∧ True from fun W hW => ⟨(HGq.out.past hW).cellAt 0 rfl, trivial⟩)
              clear hqb
              refine wp_region_G 10 follows_mixed (fun W => W.cell? ⟨gb, 0, none⟩ = some (.int .i64 G) ∧ True) (HSS.out _ (pd pr)) ?_
              intro hSd inv
              have HSd := Lib.hid hSd
              clear hSd
              refine wpAnyG_take (i := 0) (v := ?_) rfl (by kernel_rfl) (by kernel_rfl) (by kernel_rfl) (by kernel_rfl) (by kernel_rfl) (by decide) (by decide) inv (fun _ _ _ h => h) (Or.inl ⟨by rfl, ?_⟩) HSd.out ?_; rotate_left; (focus (intro W y1; obtain ⟨y1, y2⟩ := y1; go_simp; (first | done | with_reducible rfl))); clear inv; intro inv; simp only [List.getElem_toArray, List.getElem_cons_zero, Act.put, List.setIfInBounds_toArray, List.set_cons_zero, List.set_cons_succ]
              refine wpAnyG_take (i := 1) (v := ?_) rfl (by kernel_rfl) (by kernel_rfl) (by kernel_rfl) (by kernel_rfl) (by kernel_rfl) (by decide) (by decide) inv (fun _ _ _ h => h) (Or.inl ⟨by rfl, ?_⟩) HSd.out ?_; rotate_left; (focus (intro W y1; obtain ⟨y1, y2⟩ := y1; go_simp; (first | done | with_reducible rfl))); clear inv; intro inv; simp only [List.getElem_toArray, List.getElem_cons_zero, List.getElem_cons_succ, Act.put, List.setIfInBounds_toArray, List.set_cons_zero, List.set_cons_succ]
              refine wpAnyG_take (i := 2) (v := ?_) rfl (by kernel_rfl) (by kernel_rfl) (by kernel_rfl) (by kernel_rfl) (by kernel_rfl) (by decide) (by decide) inv (fun _ _ _ h => h) (Or.inl ⟨by rfl, ?_⟩) HSd.out ?_; rotate_left; (focus (intro W y1; obtain ⟨y1, y2⟩ := y1; go_simp; (first | done | with_reducible rfl))); clear inv; intro inv; simp only [List.getElem_toArray, List.getElem_cons_zero, List.getElem_cons_succ, Act.put, List.setIfInBounds_toArray, List.set_cons_zero, List.set_cons_succ]
              refine wpAnyG_take (i := 3) (v := ?_) rfl (by kernel_rfl) (by kernel_rfl) (by kernel_rfl) (by kernel_rfl) (by kernel_rfl) (by decide) (by decide) inv (fun _ _ _ h => h) (Or.inl ⟨by rfl, ?_⟩) HSd.out ?_; rotate_left; (focus (intro W y1; obtain ⟨y1, y2⟩ := y1; go_simp; (first | done | with_reducible rfl))); clear inv; intro inv; simp only [List.getElem_toArray, List.getElem_cons_zero, List.getElem_cons_succ, Act.put, List.setIfInBounds_toArray, List.set_cons_zero, List.set_cons_succ]
              refine wpAnyG_take (i := 4) (v := ?_) rfl (by kernel_rfl) (by kernel_rfl) (by kernel_rfl) (by kernel_rfl) (by kernel_rfl) (by decide) (by decide) inv (fun _ _ _ h => h) (Or.inl ⟨by rfl, ?_⟩) HSd.out ?_; rotate_left; (focus (intro W y1; obtain ⟨y1, y2⟩ := y1; go_simp; (first | done | with_reducible rfl))); clear inv; intro inv; simp only [List.getElem_toArray, List.getElem_cons_zero, List.getElem_cons_succ, Act.put, List.setIfInBounds_toArray, List.set_cons_zero, List.set_cons_succ]
              refine wpAnyG_take (i := 6) (v := ?_) rfl (by kernel_rfl) (by kernel_rfl) (by kernel_rfl) (by kernel_rfl) (by kernel_rfl) (by decide) (by decide) inv (fun _ _ _ h => h) (Or.inl ⟨by rfl, ?_⟩) HSd.out ?_; rotate_left; (focus (intro W y1; obtain ⟨y1, y2⟩ := y1; go_simp; (first | done | with_reducible rfl))); clear inv; intro inv; simp only [List.getElem_toArray, List.getElem_cons_zero, List.getElem_cons_succ, Act.put, List.setIfInBounds_toArray, List.set_cons_zero, List.set_cons_succ]
              refine wpAnyG_take (i := 7) (v := ?_) rfl (by kernel_rfl) (by kernel_rfl) (by kernel_rfl) (by kernel_rfl) (by kernel_rfl) (by decide) (by decide) inv (fun _ _ _ h => h) (Or.inl ⟨by rfl, ?_⟩) HSd.out ?_; rotate_left; (focus (intro W y1; obtain ⟨y1, y2⟩ := y1; go_simp; (first | done | with_reducible rfl))); clear inv; intro inv; simp only [List.getElem_toArray, List.getElem_cons_zero, List.getElem_cons_succ, Act.put, List.setIfInBounds_toArray, List.set_cons_zero, List.set_cons_succ]
              clear inv
              refine wpAnyG_one (i := 5) (by kernel_rfl) rfl rfl fun K hK => ?_
              go_simp
              refine (HR1.out _ (pd pr)).mono ?_
              rintro e w8 ⟨A1, c1, rfl, hi8, hb8⟩
              have hz8 : w.heap.size < wr.drew.heap.size := Nat.lt_of_lt_of_le HZe2.out.lt (show Below wr.heap.size wr wr.drew from pd pr).size
              have HB8 := Lib.hid (show Below wr.heap.size wr w8 from pt (pd pr) hb8)
              have HI8 := Lib.hid hi8
              clear hi8 hb8
              refine hK.out _ _ (fun _ => HSS.out _ HB8.out) ?_
              clear hK K
              refine wpAnyG_one (i := 8) (by kernel_rfl) rfl rfl fun K hK => ?_
              go_simp
              refine (HR2.out _ HB8.out).mono ?_
              rintro e w9 ⟨A2, c2, rfl, hi9, hb9⟩
              have hz9 : w.heap.size < w8.heap.size := Nat.lt_of_lt_of_le HZe2.out.lt HB8.out.size
              have HB9 := Lib.hid (show Below wr.heap.size wr w9 from pt HB8.out hb9)
              have HI9 := Lib.hid hi9
              have HI8b := Lib.hid (ownPast hb9 HI8.out)
              clear hi9 hb9
              refine hK.out _ _ (fun _ => HSS.out _ HB9.out) ?_
              clear hK K
              refine wpAnyG_one (i := 9) (by kernel_rfl) rfl rfl fun K hK => ?_
              go_simp
              refine hK.out _ _ (fun _ => HSS.out _ HB9.out) ?_
              clear hK K
              have HZ9 := Lib.hid (HZe2.out.past HB9.out)
              have HW9 := Lib.hid (HWe2.out.trans (HB9.out.mono HWe2.out.size))
              refine wpAnyG_one (i := 10) (by kernel_rfl) rfl rfl fun K hK => ?_
              refine store_op HZ9.out (o := 0) (vs := #[.int .i64 (D.tdiv G), .slice A1 N c1, .slice A2 bs.length c2]) (cs' := #[.int .i64 (D.tdiv G), .slice A1 N c1, .slice A2 bs.length c2]) rfl rfl rfl (Nat.le_refl 3) solution_size (by simp [Value.oneCell']) fun wz hz hp => ?_
              refine hK.out _ _ (fun h => absurd h (by decide)) ?_
              clear hK K
              refine wpAnyG_done (by kernel_rfl) ?_
              go_wp2
              have r0 := hz.cellAt 0 rfl
              have r1 := hz.cellAt 1 rfl
              have r2 := hz.cellAt 2 rfl
              refine bodyPost_ret (v := .agg #[.int .i64 (D.tdiv G), .slice A1 N c1, .slice A2 bs.length c2]) (by simp [results, Try.results35, go_sem, r0, r1, r2]) rfl ?_
              refine ⟨A1, A2, c1, c2, by rw [HSv.out], ?_, ?_, ?_⟩
              · rw [HSv.out]
                exact ownDown (ownPut HI8b.out hp hz8) (Nat.le_of_lt hz8)
              · rw [HSv.out]
                exact ownDown (ownPut HI9.out hp hz9) (Nat.le_of_lt hz9)
              · exact HW9.out.trans (hp.below _ (Nat.le_refl _))
end Go.Proofs.Ytapegimghfflhaa
end
