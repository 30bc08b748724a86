/- Contract: the string of a task. -/
import Derived.Test.YtbojmcopagbheaaGreatDoorQ2
import Derived.Test.YtbojmcopagbheaaGreatDoorQ3
namespace Go.Proofs.YtbojmcopagbheaaGreatDoor
open Go.RowKit
attribute [local go_sem ↓] Go.wp_at_zero Go.wp_at_succ

theorem string_info2 : (Tryz.prog.info? 9).map (fun i => (i.zero, i.size, i.bytes)) = some (some (.string ByteArray.empty), 1, 16) := by kernel_rfl
theorem join_len (L : List (List UInt8)) (d : UInt8) (k : Nat) (h : ∀ x ∈ L, x.length ≤ k) : (Lib.join L [d]).length ≤ L.length * (k + 1) := by
  match L with
  | [] => simp [Lib.join]
  | [x] => rw [Lib.join_one]; have := h x (by simp); simp; omega
  | x :: y :: l =>
    rw [join_cons2]
    have h1 := h x (by simp)
    have h2 := join_len (y :: l) d k fun z hz => h z (List.mem_cons_of_mem _ hz)
    simp only [List.length_append, List.length_cons, Nat.succ_mul] at *
    omega
theorem listed_len (L : List (List UInt8)) (k : Nat) (h : ∀ x ∈ L, x.length ≤ k) : (listedL L).length ≤ L.length * (k + 1) + 1 := by
  unfold listedL
  split
  · simp
  · exact Nat.le_succ_of_le (join_len L 44 k h)
theorem own_lt {w : World} {base : Nat} {e : TypeId} {size n : Nat} {v : Value} {xs : List Value} (h : w.ownsRow base e size v n xs) {g : Nat} (hg : g < base) : some g ≠ v.ownBlock := fun e => by
  have := (h.lt g e.symm).1
  omega
theorem take_snoc_map {α β : Type} (f : α → β) (l : List α) (i : Nat) (d : α) (h : i < l.length) : (l.take (i + 1)).map f = (l.take i).map f ++ [f (l.getD i d)] := by
  rw [List.take_add_one, List.getElem?_eq_getElem h, List.map_append, List.getD_eq_getElem?_getD, List.getElem?_eq_getElem h]
  rfl

set_option maxHeartbeats 4000000 in
set_option maxRecDepth 100000 in
theorem FormatTask_any (B : Nat) (t : Task) (A : Option Addr) (n c : Nat) (w : World) (h : StrIn w) (hn : t.after.length = n) (hr : IntsIn B w A t.after) (hB : B ≤ w.heap.size) (hm : n ≤ 1000)
    (i1 : I64 t.machine) (i2 : I64 t.length) (i3 : I64 t.release) (ia : ∀ x ∈ t.after, I64 x) :
    Calls Tryz.prog 13 #[.agg #[.int .i64 t.machine, .int .i64 t.length, .int .i64 t.release, .slice A n c]] w fun e w' => e = .returned (strV (fmtT t.machine t.length t.release t.after)) ∧ Below w.heap.size w w' := by
  obtain ⟨i0, hi0, hz0, hz1, hz2⟩ : ∃ i0, Tryz.prog.info? 9 = some i0 ∧ i0.zero = some (.string ByteArray.empty) ∧ i0.size = 1 ∧ i0.bytes = 16 := by
    have h := string_info2
    cases hi : Tryz.prog.info? 9 with
    | none => rw [hi] at h; cases h
    | some i => rw [hi] at h; simp only [Option.map_some, Option.some.injEq, Prod.mk.injEq] at h; exact ⟨i, rfl, h.1, h.2.1, h.2.2⟩
  obtain ⟨m, le, re, xs⟩ := t
  dsimp only at *
  have HF := Lib.hid (show fmtT m le re xs = Lib.join [Lib.itoa m, Lib.itoa le, Lib.itoa re, listedL (xs.map Lib.itoa)] [32] from rfl)
  have HLs := Lib.hid (show ∀ x ∈ xs.map Lib.itoa, x.length ≤ 21 from fun x hx => by
    obtain ⟨k, hk, rfl⟩ := List.mem_map.1 hx
    exact itoa_len (ia k hk).1 (ia k hk).2)
  have HS := Lib.hid (fun w' (hb : Below w.heap.size w w') => h.kept hb)
  have HI := Lib.hid (fun k (hk : I64 k) w' hS' => itoa_wide k hk.1 hk.2 w' hS')
  have HA := Lib.hid ia
  have HR := Lib.hid hr
  have HN := Lib.hid hn
  have hxs : xs.length ≤ 1000 := by omega
  clear h ia hr hn
  go_enter Tryz.func13, Tryz.ntmps13
  go_wp2
  go_loopw [3, 9] (fun ov iv wr => ∃ (i : Nat) (A1 : Option Addr) (c1 : Nat), ov = .slice A1 i c1 ∧ iv = .int .i64 (i : Int) ∧ i ≤ n ∧ wr.ownsRow (w.heap.size + 1) 9 1 (.slice A1 i c1) i ((xs.take i).map fun k => strV (Lib.itoa k)) ∧ Blk wr w.heap.size 41 #[.int .i64 m, .int .i64 le, .int .i64 re, .slice A n c] ∧ Below w.heap.size w wr) (fun _ iv _ => n - (intOf iv).toNat)
  case atStart => exact ⟨0, none, 0, rfl, rfl, Nat.zero_le _, World.ownsRow_nil _ _ _ _, Blk.new w _ _, pa pr⟩
  case round =>
    obtain ⟨i, A1, c1, rfl, rfl, hin, hown, hk, hq⟩ := hrel
    have HQ := Lib.hid hq
    have HK := Lib.hid hk
    have n0 : (0 : Int) ≤ (i : Int) := by omega
    clear hq
    by_cases hlt : i < n
    · have n1 : (i : Int) < (n : Int) := by omega
      have hlx : i < xs.length := by have := HN.out; omega
      obtain ⟨b, off, rfl, hb, hc⟩ := HR.out.at_ hlx
      have hcell : wr.cell? ⟨b, off + i, none⟩ = some (.int .i64 (xs.getD i 0)) := ((bcell HQ.out).1 b _ (by omega)).trans (hc i hlx)
      have e1 : IntKind.i64.wrap ((i : Int) + 1) = (i : Int) + 1 := IntWalk.i64_in _ (by omega)
      have HX := Lib.hid (show I64 (xs.getD i 0) from HA.out _ (by rw [List.getD_eq_getElem?_getD, List.getElem?_eq_getElem hlx]; exact List.getElem_mem hlx))
      have HT := Lib.hid (take_snoc_map (fun k => strV (Lib.itoa k)) xs i 0 hlx)
      have HO := Lib.hid hown
      clear hc hk hown
      generalize xs.getD i 0 = x at *
      go_wp2_with (first
        | (go_at_call 54; (with_reducible refine (HI.out x HX.out _ (HS.out _ HQ.out)).mono ?_); rintro e w1 ⟨rfl, hb1⟩; have HO1 := Lib.hid ((own_past HO.out hb1).alloc (.cells #[strV (Lib.itoa x)] 9)); have HK1 := Lib.hid ((HK.out.past hb1).alloc (o := .cells #[strV (Lib.itoa x)] 9)); have HQ1 := Lib.hid (pt HQ.out hb1); have HC := Lib.hid (cellsIn_one w1 9 (strV (Lib.itoa x))); have hs1 := HQ1.out.size)
        | (at_builtin; go_must (refine wpList_append_cells _ rfl (.tmp 13) (.tmp 16) _ rfl (w.heap.size + 1) 9 i0 _ 1 16 Tryz.underlying56 hi0 hz0 hz1 hz2 rfl (by omega) _ i _ rfl HO1.out (w1.heap.size + 1) (some ⟨w1.heap.size, 0, none⟩) 1 1 _ rfl HC.out rfl (by simp [Value.oneCell']) (by simp only [maxLen]; omega) (by omega) (by simp; omega) ?_); intro v4 w4 hown4 hg4 hat4; obtain ⟨A4, c4, rfl, hc4, hm4⟩ := own_form hown4))
      have HB4 := Lib.hid (show Below w.heap.size w w4 from pg (pa HQ1.out) HO1.out (Nat.le_succ _) hg4)
      have HK4 := Lib.hid (HK1.out.grown hg4 (own_lt HO1.out (Nat.lt_succ_self _)))
      have HOwn4 := Lib.hid hown4
      clear hown4 hg4 hat4
      go_roundw
      case rel => exact ⟨i + 1, A4, c4, rfl, by go_num, by omega, by rw [HT.out]; exact HOwn4.out, HK4.out, HB4.out⟩
      case measure => simp [intOf]; omega
    · have hie : i = n := by omega
      subst hie
      have hown' : wr.ownsRow (w.heap.size + 1) 9 1 (.slice A1 i c1) i ((xs.map Lib.itoa).map strV) := by
        have e : xs.take i = xs := List.take_of_length_le (by have := HN.out; omega)
        rw [e] at hown
        rw [List.map_map]
        exact hown
      obtain ⟨A2, c2, e2, hc2, _⟩ := own_form hown'
      injection e2 with e2 e3 e4
      subst e2 e4
      have HL := Lib.hid (cellsIn_of_own hown')
      have HLen := Lib.hid (show (xs.map Lib.itoa).length = i by rw [List.length_map]; exact HN.out)
      have HJl := Lib.hid (Nat.le_trans (join_len _ 44 21 HLs.out) (show (xs.map Lib.itoa).length * 22 ≤ 1000000 by have := HLen.out; omega))
      have z0 := hk.cellAt 0 rfl
      have z1 := hk.cellAt 1 rfl
      have z2 := hk.cellAt 2 rfl
      have HZ := Lib.hid (fun w' (hb : Below wr.heap.size wr w') => hk.past hb)
      have H1 := Lib.hid (HI.out m i1)
      have H2 := Lib.hid (HI.out le i2)
      have H3 := Lib.hid (HI.out re i3)
      have l1 := itoa_len i1.1 i1.2
      have l2 := itoa_len i2.1 i2.2
      have l3 := itoa_len i3.1 i3.2
      have l4 := listed_len _ 21 HLs.out
      have HLst := Lib.hid (fun w' (hb : Below wr.heap.size wr w') => listed_any (xs.map Lib.itoa) A1 i c1 w' HLen.out (HL.out.past (Nat.le_refl _) hb) hc2 (by omega) HJl.out)
      have hlt0 := hk.lt
      have e5 : (xs.map Lib.itoa).length ≤ 1000 := by have := HLen.out; omega
      clear hown hown' hk i1 i2 i3 HL HJl HLs HLen HI HR HN HA hxs hlt
      generalize listedL (xs.map Lib.itoa) = L4 at *
      generalize Lib.itoa m = L1 at *
      generalize Lib.itoa le = L2 at *
      generalize Lib.itoa re = L3 at *
      have l5 : L4.length ≤ 23000 := by omega
      have HJ := Lib.hid (fun w' : World => joinC_any [L1, L2, L3, L4] 32 (some ⟨w'.heap.size, 0, none⟩) 4 4 (w'.alloc (.cells #[strV L1, strV L2, strV L3, strV L4] 9)) rfl (by
        have e : (w'.alloc (.cells #[strV L1, strV L2, strV L3, strV L4] 9)).heap.size = w'.heap.size + 1 := by simp
        rw [e]
        exact cells_new w' _ [strV L1, strV L2, strV L3, strV L4]) (by decide) (by decide) (Nat.le_trans (join_len _ 32 23000 (by
          intro x hx
          simp only [List.mem_cons, List.not_mem_nil, or_false] at hx
          rcases hx with rfl | rfl | rfl | rfl <;> omega)) (by simp)))
      clear l1 l2 l3 l4 l5 e5
      go_wp2
      refine region_below 11 follows_mixed (by kernel_rfl) ?_
      intro C hC
      simp only [List.take_succ_cons, List.take_zero, List.drop_succ_cons, List.drop_zero]
      repeat (first
        | ((with_reducible refine quiet_plain rfl (fun K hK => ?_)); (focus (apply quiet_val; (focus (intro w' hw; obtain ⟨hcq, hfq⟩ := bcell ((hC.out _).1 hw); go_simp; (first | done | rfl | (with_reducible exact call_below hC hw (H1.out _ (HS.out _ (pt HQ.out ((hC.out _).1 hw))))) | (with_reducible exact call_below hC hw (H2.out _ (HS.out _ (pt HQ.out ((hC.out _).1 hw))))) | (with_reducible exact call_below hC hw (H3.out _ (HS.out _ (pt HQ.out ((hC.out _).1 hw))))) | (with_reducible exact call_below hC hw (HLst.out _ ((hC.out _).1 hw)))))); (simp only [Act.put, List.setIfInBounds_toArray, List.set_cons_succ, List.set_cons_zero]); (with_reducible refine hK _ ?_); clear hK K)))
        | ((with_reducible refine quiet_skip ?_ ?_); (focus (first | (simp [Region.wanted, yielded]; done) | (simp [Region.wanted, yielded, undef]; done))); simp only [Act.put, List.setIfInBounds_toArray, List.set_cons_succ, List.set_cons_zero])
        | ((with_reducible refine quiet_go ?_ (fun K hK => ?_)); (focus (first | (simp [Region.wanted, yielded]; done) | (simp [Region.wanted, yielded, undef]; done))); (focus (apply quiet_val; (focus (intro w' hw; obtain ⟨hcq, hfq⟩ := bcell ((hC.out _).1 hw); go_simp; (first | done | rfl | (with_reducible exact call_below hC hw (H1.out _ (HS.out _ (pt HQ.out ((hC.out _).1 hw))))) | (with_reducible exact call_below hC hw (H2.out _ (HS.out _ (pt HQ.out ((hC.out _).1 hw))))) | (with_reducible exact call_below hC hw (H3.out _ (HS.out _ (pt HQ.out ((hC.out _).1 hw))))) | (with_reducible exact call_below hC hw (HLst.out _ ((hC.out _).1 hw)))))); (simp only [Act.put, List.setIfInBounds_toArray, List.set_cons_succ, List.set_cons_zero]); (with_reducible refine hK _ ?_); clear hK K))))
      refine wpQuiet_nil ?_
      intro w1 hb1
      replace hb1 := (hC.out _).1 hb1
      clear hC C
      obtain ⟨hc1, hf1⟩ := bcell hb1
      go_wp2_with (go_at_call 55; (with_reducible refine (HJ.out _).mono ?_); rintro e w2 ⟨rfl, hb2⟩)
      go_ret
      exact ⟨by rw [HF.out]; rfl, pt (pa (pt HQ.out hb1)) hb2⟩

end Go.Proofs.YtbojmcopagbheaaGreatDoor
