/- WorksBothWays: valid lots: the law returns true, and nothing that was there is turned (the walk). -/
import Derived.Test.YtlgioldmjohhlaaTJBoth
import Derived.Deep.RegionHeld3
import Derived.Deep.QuietTactic
import Derived.BigQuiet
namespace Go.Proofs.Ytlgioldmjohhlaa
open Go.RowKit


set_option maxHeartbeats 4000000 in
set_option maxRecDepth 100000 in
theorem both_go (A : Option Addr) (c : Nat) (xs : List Lot) (w : World) (hr : LotsIn w.heap.size w A xs) (hcap : xs.length ≤ c) (h : smallB xs = true) (h0 : (openLotsV xs).2 = 0) :
    Calls Try.prog 10 #[.slice A xs.length c] w fun e w' => e = .returned (.bool true) ∧ Below w.heap.size w w' := by
  obtain ⟨r0, hr0, hrz0, hrz1, hrz2⟩ := info_parts strs_info
  obtain ⟨b0, hb0, hbz0, hbz1, hbz2⟩ := info_parts bool_info
  have HBx := Lib.hid (Below.refl w.heap.size w)
  have hs := small_lots h
  have ok := lotsOk_of h0
  have hle20 := ok.1
  have hsm := fun W (hW : Below w.heap.size w W) => small_any w.heap.size xs A c W (hr.below hW) hW.size
  rw [h] at hsm
  have hle := fun W (hW : Below w.heap.size w W) => refLotsErr_any w.heap.size xs A c W (hr.below hW) hW.size hs hcap
  rw [h0] at hle
  have hcp := fun W (hW : Below w.heap.size w W) => copyLots_any w.heap.size xs A xs.length c W (hr.below hW) rfl hW.size hs
  have hin := fun i (hi : i < xs.length) W A1 c1 (h1 : LotsIn W.heap.size W A1 xs) => ingredients_ok2 W.heap.size xs (nameAt xs i) A1 c1 W h1 (Nat.le_refl _) hs (hs.2 i hi).1 (member_at h0 hi (lotE_made (lotE_at h0 hi)).2)
  have hpr := fun i (hi : i < xs.length) W A1 c1 (h1 : LotsIn W.heap.size W A1 xs) => products_ok2 W.heap.size xs (nameAt xs i) A1 c1 W h1 (Nat.le_refl _) hs (hs.2 i hi).1 (member_at h0 hi (lotE_made (lotE_at h0 hi)).2)
  have hac := fun i (hi : i < xs.length) W A5 c5 (h1 : TextRow W A5 (madeAt xs i)) (h2 : (madeAt xs i).length ≤ c5) => by
    have q := acceptOf_any W.heap.size (xs.getD i default) A5 (madeAt xs i).length c5 W rfl h1.row (Nat.le_refl _) (hs.2 i hi) h2
    rw [lotE_at h0 hi, if_pos rfl] at q
    exact q
  have hsu := fun W A1 c1 (h1 : LotsIn W.heap.size W A1 xs) => suspectsIn_ok W.heap.size xs A1 c1 W h1 (Nat.le_refl _) hs h0
  have hlS : (suspectsV xs).length ≤ xs.length := namesV_le _ _
  have HSm := Lib.hid hsm
  have HLe := Lib.hid hle
  have HCp := Lib.hid hcp
  have HIn := Lib.hid hin
  have HPr := Lib.hid hpr
  have HAc := Lib.hid hac
  have HSu := Lib.hid hsu
  have HR := Lib.hid hr
  have HS0 := Lib.hid hs
  have HOk := Lib.hid ok
  clear hr hsm h hle h0 hcp hin hpr hac hsu hs ok
  go_enter Try.func10, Try.ntmps10
  go_wp2_with (first
    | (go_at_call 15; refine (awake_any _).mono ?_; rintro e w1 ⟨rfl, hb⟩; replace HBx := Lib.hid (pt HBx.out hb); clear hb)
    | (go_at_call 34; go_must (refine (HSm.out _ HBx.out).mono ?_); rintro e w1 ⟨rfl, hb⟩; replace HBx := Lib.hid (pt HBx.out hb); clear hb)
    | (go_at_call 55; go_must (refine (HLe.out _ HBx.out).mono ?_); rintro e w3 ⟨rfl, hb⟩; replace HBx := Lib.hid (pt HBx.out hb); clear hb))
  have HB3 := Lib.hid HBx.out
  clear HBx
  go_loopw [3, 4, 5, 6] (fun vf vt vs iv wr => ∃ (i : Nat) (uf ut : List Value), iv = .int .i64 (i : Int) ∧ i ≤ xs.length ∧ Gath w3.heap.size wr xs vf vt vs uf ut i ∧ Below w3.heap.size w3 wr) (fun _ _ _ iv _ => xs.length - (intOf iv).toNat)
  case atStart => exact ⟨0, [], [], rfl, Nat.zero_le _, ⟨World.ownsRow_nil _ _ _ _, TRows.nil, World.ownsRow_nil _ _ _ _, TRows.nil, .inl rfl, World.ownsRow_nil _ _ _ _⟩, pr⟩
  case round =>
    obtain ⟨i, uf, ut, rfl, hi, hg, hq⟩ := hrel
    have HBx := Lib.hid (pt HB3.out hq)
    have HQ := Lib.hid hq
    have HG := Lib.hid hg.mid
    have HGe := Lib.hid hg
    clear hq hg
    by_cases hlt : i < xs.length
    · clear HGe
      obtain ⟨b, off, hA, hbB, hct⟩ := HR.out.at_ hlt
      subst hA
      obtain ⟨t0w, A3, c3, t1w, tr, tc, t2w, t3w, t4w, t5w⟩ := hct i hlt
      have n0 : (0 : Int) ≤ (i : Int) := by omega
      have n1 : (i : Int) < (xs.length : Int) := by omega
      have hl1 : (ingredientsV xs (nameAt xs i)).length ≤ xs.length := namesV_le _ _
      have hl2 : (productsV xs (nameAt xs i)).length ≤ xs.length := namesV_le _ _
      have hd1 : decide ((xs.length : Int) < ((ingredientsV xs (nameAt xs i)).length : Int)) = false := decide_eq_false (by omega)
      have hd2 : decide ((xs.length : Int) < ((productsV xs (nameAt xs i)).length : Int)) = false := decide_eq_false (by omega)
      have hd1' : ¬ xs.length < (ingredientsV xs (nameAt xs i)).length := by omega
      have hd2' : ¬ xs.length < (productsV xs (nameAt xs i)).length := by omega
      have HT0 := Lib.hid t0w
      have HT1 := Lib.hid t1w
      have HT2 := Lib.hid t2w
      have HT3 := Lib.hid t3w
      have HT4 := Lib.hid t4w
      have HT5 := Lib.hid t5w
      have HTr := Lib.hid tr
      have hsx := HS0.out.2 i hlt
      have HSx := Lib.hid hsx
      have HI := Lib.hid (HIn.out i hlt)
      have HP := Lib.hid (HPr.out i hlt)
      have HA := Lib.hid (HAc.out i hlt)
      have hbw := Nat.lt_of_lt_of_le hbB HBx.out.size
      clear hct t0w t1w t2w t3w t4w t5w tr hsx
      have t0 : wr.cell? ⟨b, off + i * 6, none⟩ = some (.string (nameAt xs i)) := ((bcell HBx.out).1 _ _ hbB).trans HT0.out
      have HS := Lib.hid (show ∀ W, Hid (Below wr.heap.size wr W) → Hid (Below wr.heap.size wr W) ∧ W.cell? ⟨b, off + i * 6, none⟩ = some (.string (nameAt xs i)) from fun W hW => ⟨hW, ((bcell hW.out).1 _ _ hbw).trans t0⟩)
      clear t0
      go_wp2
      go_region_held3 (fun w' => Hid (Below wr.heap.size wr w') ∧ w'.cell? ⟨b, off + i * 6, none⟩ = some (.string (nameAt xs i))) ((refine HS.out _ (Lib.hid ?_); repeat (first | assumption | (with_reducible exact pr) | (with_reducible refine pd ?_) | (with_reducible refine pa ?_) | (with_reducible refine pt ?_ (by assumption)))))
        ((first
          | (go_at_call 36; (with_reducible refine (HCp.out _ (pd HBx.out)).mono ?_); rintro e w5 ⟨A6, c6, rfl, hl6, hc6, hb5⟩; have HL6 := Lib.hid hl6)
          | (go_at_call 53; (with_reducible refine (HI.out _ A6 c6 HL6.out).mono ?_); rintro e w6 ⟨A7, c7, rfl, hi7, hc7, hb6⟩; have HI7 := Lib.hid hi7)))
      replace HBx := Lib.hid (show Below w.heap.size w w6 from pt (pt HBx.out (pt (pd pr) hb5)) hb6)
      have HQ6 := Lib.hid (show Below wr.heap.size wr w6 from pt (pt (pd pr) hb5) hb6)
      clear HS hb5 hb6
      have hbw6 := Nat.lt_of_lt_of_le hbB HBx.out.size
      have t0 : w6.cell? ⟨b, off + i * 6, none⟩ = some (.string (nameAt xs i)) := ((bcell HBx.out).1 _ _ hbB).trans HT0.out
      have HS := Lib.hid (show ∀ W, Hid (Below w6.heap.size w6 W) → Hid (Below w6.heap.size w6 W) ∧ W.cell? ⟨b, off + i * 6, none⟩ = some (.string (nameAt xs i)) from fun W hW => ⟨hW, ((bcell hW.out).1 _ _ hbw6).trans t0⟩)
      clear t0 hbw
      go_wp2
      go_region_held3 (fun w' => Hid (Below w6.heap.size w6 w') ∧ w'.cell? ⟨b, off + i * 6, none⟩ = some (.string (nameAt xs i))) ((refine HS.out _ (Lib.hid ?_); repeat (first | assumption | (with_reducible exact pr) | (with_reducible refine pd ?_) | (with_reducible refine pa ?_) | (with_reducible refine pt ?_ (by assumption)))))
        ((first
          | (go_at_call 36; (with_reducible refine (HCp.out _ (pd HBx.out)).mono ?_); rintro e w7 ⟨A8, c8, rfl, hl8, hc8, hb7⟩; have HL8 := Lib.hid hl8)
          | (go_at_call 54; (with_reducible refine (HP.out _ A8 c8 HL8.out).mono ?_); rintro e w8 ⟨A9, c9, rfl, hi9, hc9, hb8⟩; have HI9 := Lib.hid hi9)))
      replace HBx := Lib.hid (show Below w.heap.size w w8 from pt (pt HBx.out (pt (pd pr) hb7)) hb8)
      have HQ8 := Lib.hid (show Below w6.heap.size w6 w8 from pt (pt (pd pr) hb7) hb8)
      clear HS hb7 hb8 hbw6
      have t0 : w8.cell? ⟨b, off + i * 6, none⟩ = some (.string (nameAt xs i)) := ((bcell HBx.out).1 _ _ hbB).trans HT0.out
      have t1 := ((bcell HBx.out).1 _ _ hbB).trans HT1.out
      have t2 := ((bcell HBx.out).1 _ _ hbB).trans HT2.out
      have t3 := ((bcell HBx.out).1 _ _ hbB).trans HT3.out
      have t4 := ((bcell HBx.out).1 _ _ hbB).trans HT4.out
      have t5 := ((bcell HBx.out).1 _ _ hbB).trans HT5.out
      have tx := Nat.lt_of_lt_of_le hbB HBx.out.size
      have HGd := Lib.hid (show goodAt xs i = (acceptV (xs.getD i default) == 2) from rfl)
      have HCl := Lib.hid fun W (hW : Below w.heap.size w W) => (show Calls Try.prog 40 #[.agg #[.string (nameAt xs i), .slice A3 (xs.getD i default).made.length c3, .int .i64 (xs.getD i default).mlo, .int .i64 (xs.getD i default).mhi, .int .i64 (xs.getD i default).llo, .int .i64 (xs.getD i default).lhi]] W (LotRet W (xs.getD i default)) from copyLot_any w.heap.size (xs.getD i default) A3 (xs.getD i default).made.length c3 W rfl (HTr.out.below hW) hW.size HSx.out)
      have HA2 := Lib.hid (show ∀ W A5 c5, TextRow W A5 (xs.getD i default).made → (xs.getD i default).made.length ≤ c5 → Calls Try.prog 39 #[.agg #[.string (xs.getD i default).name, .slice A5 (xs.getD i default).made.length c5, .int .i64 (xs.getD i default).mlo, .int .i64 (xs.getD i default).mhi, .int .i64 (xs.getD i default).llo, .int .i64 (xs.getD i default).lhi]] W fun e w' => e = .returned (.tuple #[.int .i64 (acceptV (xs.getD i default)), .int .i64 0]) ∧ Below W.heap.size W w' from fun W A5 c5 h1 h2 => HA.out W A5 c5 h1 h2)
      clear HA
      clear HT0 HT1 HT2 HT3 HT4 HT5
      generalize hx : xs.getD i default = x at t1 t2 t3 t4 t5 HGd HCl HA2 HTr HSx
      clear hx
      have HUs := Lib.hid (show ((List.range (i + 1)).map fun k => Value.bool (goodAt xs k)) = ((List.range i).map fun k => Value.bool (goodAt xs k)) ++ [.bool (acceptV x == 2)] by
        rw [List.range_succ, List.map_append]
        simp only [List.map_cons, List.map_nil]
        rw [HGd.out])
      generalize acceptV x = V at *
      go_wp2_with (first
        | (go_at_call 40; go_must (refine (HCl.out _ HBx.out).mono ?_); rintro e w9 ⟨A5, c5, rfl, hrow5, hc5, hb9⟩; have HRow5 := Lib.hid hrow5; have HC5 := Lib.hid hc5; have HQ9 := Lib.hid hb9; clear t0 t1 t2 t3 t4 t5 tx hrow5 hc5 hb9)
        | (go_at_call 39; go_must (refine (HA2.out _ A5 c5 HRow5.out HC5.out).mono ?_); rintro e w10 ⟨rfl, hb10⟩; have HQa := Lib.hid (show Below w8.heap.size w8 w10 from pt HQ9.out hb10); have hqa := pt HQ8.out HQa.out; have hqb := (pt HQ6.out hqa).size; have hqw := HBx.out.size; have hqc := HQ.out.size; have hqd := hb10.size; have M1 := Lib.hid ((HG.out.past (pt HQ6.out hqa)).past (pa (o := .cells #[.slice A7 (ingredientsV xs (nameAt xs i)).length c7] 53) pr)); have R7 := Lib.hid ((HI7.out.past hqa).past (pa (o := .cells #[.slice A7 (ingredientsV xs (nameAt xs i)).length c7] 53) pr)); have R9 := Lib.hid ((HI9.out.past HQa.out).past (pa (o := .cells #[.slice A7 (ingredientsV xs (nameAt xs i)).length c7] 53) pr)); have C1 := Lib.hid (cellsIn_new w10 53 (.slice A7 (ingredientsV xs (nameAt xs i)).length c7)); have HB10 := Lib.hid (pt HQ6.out hqa); clear hqa hb10)
        | (at_builtin; (refine wpList_append_cells _ rfl (.tmp 91) (.tmp 93) _ rfl w3.heap.size 53 r0 _ 1 24 Try.underlying88 hr0 hrz0 hrz1 hrz2 rfl (by omega) _ i uf rfl M1.out.f (w10.heap.size + 1) (some ⟨w10.heap.size, 0, none⟩) 1 1 _ rfl C1.out rfl (by simp [Value.oneCell']) (by simp only [maxLen]; omega) (by omega) (by simp; omega) ?_); intro v1 w11 hown1 hg1 hat1; have M2 := Lib.hid ((M1.out.growF (l := ingredientsV xs (nameAt xs i)) rfl R7.out hown1 hg1 hat1).past (pa (o := .cells #[.slice A9 (productsV xs (nameAt xs i)).length c9] 53) pr)); have R9b := Lib.hid ((R9.out.same (TextRow.kept_rows M1.out.f (by decide) hg1)).past (pa (o := .cells #[.slice A9 (productsV xs (nameAt xs i)).length c9] 53) pr)); have C2 := Lib.hid (cellsIn_new w11 53 (.slice A9 (productsV xs (nameAt xs i)).length c9)); have HB11 := Lib.hid (show Below w3.heap.size w3 w11 from pg (pa (pt HQ.out HB10.out)) M1.out.f (Nat.le_refl _) hg1); have hq11 := HB11.out.size; clear hown1 hg1 hat1)
        | (at_builtin; (refine wpList_append_cells _ rfl (.tmp 95) (.tmp 97) _ rfl w3.heap.size 53 r0 _ 1 24 Try.underlying88 hr0 hrz0 hrz1 hrz2 rfl (by omega) _ i ut rfl M2.out.t (w11.heap.size + 1) (some ⟨w11.heap.size, 0, none⟩) 1 1 _ rfl C2.out rfl (by simp [Value.oneCell']) (by simp only [maxLen]; omega) (by omega) (by simp; omega) ?_); intro v2 w12 hown2 hg2 hat2; have M3 := Lib.hid ((M2.out.growT (l := productsV xs (nameAt xs i)) rfl R9b.out hown2 hg2 hat2).past (pa (o := .cells #[.bool (V == 2)] 4) pr)); have C3 := Lib.hid (cellsIn_new w12 4 (.bool (V == 2))); have HB12 := Lib.hid (show Below w3.heap.size w3 w12 from pg (pa HB11.out) M2.out.t (Nat.le_refl _) hg2); have hq12 := HB12.out.size; clear hown2 hg2 hat2)
        | (at_builtin; go_must (refine wpList_append_cells _ rfl (.tmp 99) (.tmp 102) _ rfl w3.heap.size 4 b0 _ 1 1 Try.underlying89 hb0 hbz0 hbz1 hbz2 rfl (by omega) _ i _ rfl M3.out.s (w12.heap.size + 1) (some ⟨w12.heap.size, 0, none⟩) 1 1 _ rfl C3.out rfl (by simp [Value.oneCell']) (by simp only [maxLen]; omega) (by omega) (by simp; omega) ?_); intro v3 w13 hown3 hg3 hat3; have M4 := Lib.hid (M3.out.growS hown3 hg3); have HB13 := Lib.hid (show Below w3.heap.size w3 w13 from pg (pa HB12.out) M3.out.s (Nat.le_refl _) hg3); clear hown3 hg3 hat3))
      go_roundw
      case rel => exact ⟨i + 1, _, _, by go_num, by omega, ⟨M4.out.f, M4.out.tf, M4.out.t, M4.out.tt, M4.out.ne, by rw [HUs.out]; exact M4.out.s⟩, HB13.out⟩
      case measure => simp [intOf]; omega
    · obtain rfl : i = xs.length := by omega
      clear HG HQ hi hlt HIn HPr HAc
      go_wp2_with (first
        | (go_at_call 36; go_must (refine (HCp.out _ HBx.out).mono ?_); rintro e w5 ⟨A6, c6, rfl, hl6, hc6, hb5⟩; have HL6 := Lib.hid hl6; have HQ5 := Lib.hid hb5; clear hb5 hl6)
        | (go_at_call 37; go_must (refine (HSu.out _ A6 c6 HL6.out).mono ?_); rintro e w8 ⟨A9, c9, rfl, hi9, hc9, hb8⟩; have HI9 := Lib.hid hi9; have HQ8 := Lib.hid (pt HQ5.out hb8); clear hb8 hi9))
      have HB8 := Lib.hid (pt HBx.out HQ8.out)
      have HG8 := Lib.hid (HGe.out.past HQ8.out)
      have HSs := Lib.hid fun i (hi : i < xs.length) W (hW : Below w8.heap.size w8 W) => (by
        have q := baseHasText_any w8.heap.size A9 (suspectsV xs).length c9 (suspectsV xs) (nameAt xs i) W (HI9.out.below hW) rfl (by omega)
        rw [has_susp HOk.out hi] at q
        exact q : Calls Try.prog 60 #[.slice A9 (suspectsV xs).length c9, .string (nameAt xs i)] W fun e w' => e = .returned (.bool (suspK xs i xs.length)) ∧ W = w')
      have hlS' : decide (((suspectsV xs).length : Int) ≤ (xs.length : Int)) = true := decide_eq_true (by omega)
      clear HBx HGe HL6 hc6 hc9 HSu HCp HQ5
      obtain ⟨wa, rfl⟩ : ∃ wa : World, wa = wr := ⟨_, rfl⟩
      go_loopw [15] (fun iv wr => ∃ i : Nat, iv = .int .i64 (i : Int) ∧ i ≤ xs.length ∧ Below w8.heap.size w8 wr) (fun iv _ => xs.length - (intOf iv).toNat)
      case atStart => exact ⟨0, rfl, Nat.zero_le _, pr⟩
      case round =>
        obtain ⟨i, rfl, hi, hq⟩ := hrel
        by_cases hlt : i < xs.length
        · have hpos : 0 < xs.length := by omega
          obtain ⟨b, off, hA, hbB, hct⟩ := HR.out.at_ hlt
          subst hA
          obtain ⟨bf, of_, cf, rfl, hbf, hcf⟩ := rowsAt_of HG8.out.f HG8.out.tf hpos
          obtain ⟨bt, ot, ct, rfl, hbt, hct2⟩ := rowsAt_of HG8.out.t HG8.out.tt hpos
          obtain ⟨bs, os, cs, rfl, hbs, hcs⟩ := boolsAt_of HG8.out.s hpos
          have HCt := Lib.hid hct
          have HCf := Lib.hid hcf
          have HCT := Lib.hid hct2
          have HCs := Lib.hid hcs
          have n0 : (0 : Int) ≤ (i : Int) := by omega
          have n1 : (i : Int) < (xs.length : Int) := by omega
          have s0 : wr.cell? ⟨bs, os + i, none⟩ = some (.bool (goodAt xs i)) := ((bcell hq).1 _ _ hbs).trans (hcs i hlt)
          have hqs := hq.size
          have hsz8 := HB8.out.size
          have hbw : b < wr.heap.size := by omega
          have hbfw : bf < wr.heap.size := by omega
          have hbtw : bt < wr.heap.size := by omega
          have hbsw : bs < wr.heap.size := by omega
          have HZ := Lib.hid (susp_zero xs i)
          have HQ := Lib.hid hq
          obtain ⟨Af, caf, hfc, hfr⟩ := hcf i hlt
          have HFr := Lib.hid hfr
          have HFc := Lib.hid hfc
          have HF1 := Lib.hid fun k (hk : k < xs.length) W (hW : Below w8.heap.size w8 W) => (by
            have q := baseHasText_any w8.heap.size Af (ingredientsV xs (nameAt xs i)).length caf (ingredientsV xs (nameAt xs i)) (nameAt xs k) W (hfr.below hW) rfl (by have : (ingredientsV xs (nameAt xs i)).length ≤ xs.length := namesV_le _ _; omega)
            rw [has_ingr HOk.out hlt hk] at q
            exact q : Calls Try.prog 60 #[.slice Af (ingredientsV xs (nameAt xs i)).length caf, .string (nameAt xs k)] W fun e w' => e = .returned (.bool (ingD xs i k)) ∧ W = w')
          obtain ⟨t0w, A3, c3, t1w, tr, tc, _, _, _, _⟩ := hct i hlt
          have HT0 := Lib.hid (show w.cell? ⟨b, off + i * 6, none⟩ = some (.string (nameAt xs i)) from t0w)
          have HT1 := Lib.hid (show w.cell? ⟨b, off + i * 6 + 1, none⟩ = some (.slice A3 (madeAt xs i).length c3) from t1w)
          have HM1 := Lib.hid fun k W (hW : Below w8.heap.size w8 W) => baseHasText_any w.heap.size A3 (madeAt xs i).length c3 (madeAt xs i) (nameAt xs k) W (show RowIn Value.string w.heap.size W A3 (madeAt xs i) from tr.below (pt HB8.out hW)) rfl (by have := (HOk.out.2 i hlt).2.1; omega)
          clear hct hct2 hcf hcs hfc hfr t0w t1w tr tc hq
          go_wp2
          rw [← HZ.out]
          clear s0
          obtain ⟨wb, rfl⟩ : ∃ wb : World, wb = wr := ⟨_, rfl⟩
          go_loopw [16, 17] (fun sv kv wr => ∃ k : Nat, sv = .bool (suspK xs i k) ∧ kv = .int .i64 (k : Int) ∧ k ≤ xs.length ∧ Below w8.heap.size w8 wr) (fun _ kv _ => xs.length - (intOf kv).toNat)
          case atStart => exact ⟨0, rfl, rfl, Nat.zero_le _, HQ.out⟩
          case round =>
            obtain ⟨k, rfl, rfl, hk, hq⟩ := hrel
            have HQ2 := Lib.hid hq
            clear hq
            by_cases hlk : k < xs.length
            · have k0 : (0 : Int) ≤ (k : Int) := by omega
              have k1 : (k : Int) < (xs.length : Int) := by omega
              obtain ⟨At, cat, htc, htr⟩ := HCT.out k hlk
              obtain ⟨v0w, A5, c5, v1w, vr, vc, _, _, _, _⟩ := HCt.out k hlk
              have HVr := Lib.hid (show RowIn Value.string w.heap.size w A5 (madeAt xs k) from vr)
              have HFa := Lib.hid (show ∀ W, Below w8.heap.size w8 W → W.cell? ⟨b, off + i * 6, none⟩ = some (.string (nameAt xs i)) ∧ W.cell? ⟨b, off + i * 6 + 1, none⟩ = some (.slice A3 (madeAt xs i).length c3) ∧ W.cell? ⟨bf, of_ + i, none⟩ = some (.slice Af (ingredientsV xs (nameAt xs i)).length caf) ∧ W.cell? ⟨bt, ot + k, none⟩ = some (.slice At (productsV xs (nameAt xs k)).length cat) ∧ W.cell? ⟨b, off + k * 6, none⟩ = some (.string (nameAt xs k)) ∧ W.cell? ⟨b, off + k * 6 + 1, none⟩ = some (.slice A5 (madeAt xs k).length c5) ∧ W.cell? ⟨bs, os + k, none⟩ = some (.bool (goodAt xs k)) ∧ b < W.heap.size ∧ bf < W.heap.size ∧ bt < W.heap.size ∧ bs < W.heap.size from fun W hq => by
                have hsz := hq.size
                exact ⟨((bcell (pt HB8.out hq)).1 _ _ hbB).trans HT0.out, ((bcell (pt HB8.out hq)).1 _ _ hbB).trans HT1.out, ((bcell hq).1 _ _ hbf).trans HFc.out, ((bcell hq).1 _ _ hbt).trans htc, ((bcell (pt HB8.out hq)).1 _ _ hbB).trans v0w, ((bcell (pt HB8.out hq)).1 _ _ hbB).trans v1w, ((bcell hq).1 _ _ hbs).trans (HCs.out k hlk), by omega, by omega, by omega, by omega⟩)
              have hf1 := fun W hW => HF1.out k hlk W hW
              have hm1 := fun W hW => HM1.out k W hW
              have ht1 := fun W (hW : Below w8.heap.size w8 W) => (by
                have q := baseHasText_any w8.heap.size At (productsV xs (nameAt xs k)).length cat (productsV xs (nameAt xs k)) (nameAt xs i) W (htr.below hW) rfl (by have : (productsV xs (nameAt xs k)).length ≤ xs.length := namesV_le _ _; omega)
                rw [has_prod (k := k) HOk.out hlt] at q
                exact q : Calls Try.prog 60 #[.slice At (productsV xs (nameAt xs k)).length cat, .string (nameAt xs i)] W fun e w' => e = .returned (.bool (ingD xs i k)) ∧ W = w')
              have hst := susp_next xs i k
              have hmf := has_made HOk.out hlt hlk
              have hlti := ingD_lt HOk.out i k hlt
              have hl6 : (madeAt xs k).length ≤ 6 := (HOk.out.2 k hlk).2.1
              have hdp := fun h j hj => has_deep (j := j) HOk.out hlt hlk h hj
              clear htc htr v0w v1w vr vc
              have HSt := Lib.hid hst
              clear hst
              cases hin : ingD xs i k with
              | false =>
                rw [hin] at hf1 ht1
                rw [hmf hin] at hm1
                have HF2 := Lib.hid hf1
                have HT2 := Lib.hid ht1
                have HM2 := Lib.hid hm1
                have HS2 := Lib.hid (show suspK xs i (k + 1) = suspK xs i k by rw [HSt.out, hin]; simp)
                clear hf1 ht1 hm1 hmf hlti hdp hin
                obtain ⟨u0, u1, f0, g0, v0, v1, s1, z1, z2, z3, z4⟩ := HFa.out _ HQ2.out
                go_wp2
                go_quiet ((go_at_call 60; exact Calls.quiet_of_same ((HF2.out _ (below_drewN' HQ2.out _)).mono fun e w' h => ⟨h.1, h.2.symm⟩)))
                have HQ3 := Lib.hid (show Below w8.heap.size w8 (wr.drewN nq) from below_drewN' HQ2.out nq); clear u0 u1 f0 g0 v0 v1 s1 z1 z2 z3 z4; generalize wr.drewN nq = wr at *; obtain ⟨u0, u1, f0, g0, v0, v1, s1, z1, z2, z3, z4⟩ := HFa.out _ HQ3.out
                go_wp2
                go_quiet ((go_at_call 60; first | (with_reducible exact Calls.quiet_of_same ((HT2.out _ (below_drewN' HQ3.out _)).mono fun e w' h => ⟨h.1, h.2.symm⟩)) | (with_reducible exact Calls.quiet_of_same ((HM2.out _ (below_drewN' HQ3.out _)).mono fun e w' h => ⟨h.1, h.2.symm⟩))))
                have HQ4 := Lib.hid (show Below w8.heap.size w8 (wr.drewN nq) from below_drewN' HQ3.out nq); clear u0 u1 f0 g0 v0 v1 s1 z1 z2 z3 z4; generalize wr.drewN nq = wr at *; obtain ⟨u0, u1, f0, g0, v0, v1, s1, z1, z2, z3, z4⟩ := HFa.out _ HQ4.out
                go_wp2
                go_roundw
                case rel => exact ⟨k + 1, by rw [HS2.out], by go_num, by omega, HQ4.out⟩
                case measure => simp [intOf]; omega
              | true =>
                rw [hin] at hf1 ht1
                have HF2 := Lib.hid hf1
                have HT2 := Lib.hid ht1
                have HDp := Lib.hid (hdp hin)
                have hki := hlti hlk hin
                have hd1 : decide ((i : Int) ≤ (k : Int)) = false := decide_eq_false (by omega)
                have hd2 : ¬ i ≤ k := by omega
                have HS1 := Lib.hid (show suspK xs i (k + 1) = (suspK xs i k || !goodAt xs k) by rw [HSt.out, hin]; simp)
                clear hf1 ht1 hmf hlti hdp hin HSt
                generalize hasT (madeAt xs i) (nameAt xs k) = m at hm1
                cases hsk : suspK xs i k with
                | true =>
                  have HS2 := Lib.hid (show suspK xs i (k + 1) = true by rw [HS1.out, hsk]; simp)
                  clear hsk HS1
                  cases m
                  all_goals
                    have HM2 := Lib.hid hm1
                    clear hm1
                    obtain ⟨u0, u1, f0, g0, v0, v1, s1, z1, z2, z3, z4⟩ := HFa.out _ HQ2.out
                    go_wp2
                    go_quiet ((go_at_call 60; exact Calls.quiet_of_same ((HF2.out _ (below_drewN' HQ2.out _)).mono fun e w' h => ⟨h.1, h.2.symm⟩)))
                    have HQ3 := Lib.hid (show Below w8.heap.size w8 (wr.drewN nq) from below_drewN' HQ2.out nq); clear u0 u1 f0 g0 v0 v1 s1 z1 z2 z3 z4; generalize wr.drewN nq = wr at *; obtain ⟨u0, u1, f0, g0, v0, v1, s1, z1, z2, z3, z4⟩ := HFa.out _ HQ3.out
                    go_wp2
                    go_quiet ((go_at_call 60; first | (with_reducible exact Calls.quiet_of_same ((HT2.out _ (below_drewN' HQ3.out _)).mono fun e w' h => ⟨h.1, h.2.symm⟩)) | (with_reducible exact Calls.quiet_of_same ((HM2.out _ (below_drewN' HQ3.out _)).mono fun e w' h => ⟨h.1, h.2.symm⟩))))
                    have HQ4 := Lib.hid (show Below w8.heap.size w8 (wr.drewN nq) from below_drewN' HQ3.out nq); clear u0 u1 f0 g0 v0 v1 s1 z1 z2 z3 z4; generalize wr.drewN nq = wr at *; obtain ⟨u0, u1, f0, g0, v0, v1, s1, z1, z2, z3, z4⟩ := HFa.out _ HQ4.out
                    go_wp2
                    clear u0 u1 f0 g0 v0 v1 s1 z1 z2 z3 z4 HM2 HF2 HT2 HQ2 HQ3
                    obtain ⟨wc, rfl⟩ : ∃ wc : World, wc = wr := ⟨_, rfl⟩
                    go_loopw [19] (fun jv wr => ∃ j : Nat, jv = .int .i64 (j : Int) ∧ j ≤ (madeAt xs k).length ∧ Below w8.heap.size w8 wr) (fun jv _ => (madeAt xs k).length - (intOf jv).toNat)
                    case atStart => exact ⟨0, rfl, Nat.zero_le _, HQ4.out⟩
                    case round =>
                      obtain ⟨j, rfl, hj, hq⟩ := hrel
                      have HQ5 := Lib.hid hq
                      clear hq
                      by_cases hlj : j < (madeAt xs k).length
                      · have HLJ := Lib.hid (show j + 1 ≤ (madeAt xs k).length from hlj)
                        obtain ⟨b4, off4, hA5, hb4, hc4⟩ := (HVr.out.below (pt HB8.out HQ5.out)).at_ hlj
                        subst hA5
                        have s5 := hc4 j hlj
                        have hb4w : b4 < wr.heap.size := by have := (pt HB8.out HQ5.out).size; omega
                        have j0 : (0 : Int) ≤ (j : Int) := by omega
                        have j1 : (j : Int) < ((madeAt xs k).length : Int) := by omega
                        have hd4 := fun W (hW : Below w8.heap.size w8 W) => baseHasText_any w8.heap.size Af (ingredientsV xs (nameAt xs i)).length caf (ingredientsV xs (nameAt xs i)) ((madeAt xs k).getD j default) W (HFr.out.below hW) rfl (by have : (ingredientsV xs (nameAt xs i)).length ≤ xs.length := namesV_le _ _; omega)
                        rw [HDp.out j hlj] at hd4
                        generalize (madeAt xs k).getD j default = y at *
                        have HD4 := Lib.hid hd4
                        clear hd4 hc4
                        obtain ⟨u0, u1, f0, g0, v0, v1, s1, z1, z2, z3, z4⟩ := HFa.out _ HQ5.out
                        go_wp2
                        go_quiet ((go_at_call 60; exact Calls.quiet_of_same ((HD4.out _ (below_drewN' HQ5.out _)).mono fun e w' h => ⟨h.1, h.2.symm⟩)))
                        have HQ6 := Lib.hid (show Below w8.heap.size w8 (wr.drewN nq) from below_drewN' HQ5.out nq)
                        go_wp2
                        go_roundw
                        case rel => exact ⟨j + 1, by go_num, HLJ.out, HQ6.out⟩
                        case measure => (have hlj2 := HLJ.out; simp [intOf]; omega)
                      · obtain ⟨u0, u1, f0, g0, v0, v1, s1, z1, z2, z3, z4⟩ := HFa.out _ HQ5.out
                        go_wp2
                        go_roundw
                        case rel => exact ⟨k + 1, by rw [HS2.out], by go_num, by omega, HQ5.out⟩
                        case measure => simp [intOf]; omega
                | false =>
                  have HS2 := Lib.hid (show suspK xs i (k + 1) = !goodAt xs k by rw [HS1.out, hsk]; simp)
                  clear hsk HS1
                  cases m
                  all_goals
                    have HM2 := Lib.hid hm1
                    clear hm1
                    obtain ⟨u0, u1, f0, g0, v0, v1, s1, z1, z2, z3, z4⟩ := HFa.out _ HQ2.out
                    go_wp2
                    go_quiet ((go_at_call 60; exact Calls.quiet_of_same ((HF2.out _ (below_drewN' HQ2.out _)).mono fun e w' h => ⟨h.1, h.2.symm⟩)))
                    have HQ3 := Lib.hid (show Below w8.heap.size w8 (wr.drewN nq) from below_drewN' HQ2.out nq); clear u0 u1 f0 g0 v0 v1 s1 z1 z2 z3 z4; generalize wr.drewN nq = wr at *; obtain ⟨u0, u1, f0, g0, v0, v1, s1, z1, z2, z3, z4⟩ := HFa.out _ HQ3.out
                    go_wp2
                    go_quiet ((go_at_call 60; first | (with_reducible exact Calls.quiet_of_same ((HT2.out _ (below_drewN' HQ3.out _)).mono fun e w' h => ⟨h.1, h.2.symm⟩)) | (with_reducible exact Calls.quiet_of_same ((HM2.out _ (below_drewN' HQ3.out _)).mono fun e w' h => ⟨h.1, h.2.symm⟩))))
                    have HQ4 := Lib.hid (show Below w8.heap.size w8 (wr.drewN nq) from below_drewN' HQ3.out nq); clear u0 u1 f0 g0 v0 v1 s1 z1 z2 z3 z4; generalize wr.drewN nq = wr at *; obtain ⟨u0, u1, f0, g0, v0, v1, s1, z1, z2, z3, z4⟩ := HFa.out _ HQ4.out
                    go_wp2
                    clear u0 u1 f0 g0 v0 v1 s1 z1 z2 z3 z4 HM2 HF2 HT2 HQ2 HQ3
                    obtain ⟨wc, rfl⟩ : ∃ wc : World, wc = wr := ⟨_, rfl⟩
                    go_loopw [19] (fun jv wr => ∃ j : Nat, jv = .int .i64 (j : Int) ∧ j ≤ (madeAt xs k).length ∧ Below w8.heap.size w8 wr) (fun jv _ => (madeAt xs k).length - (intOf jv).toNat)
                    case atStart => exact ⟨0, rfl, Nat.zero_le _, HQ4.out⟩
                    case round =>
                      obtain ⟨j, rfl, hj, hq⟩ := hrel
                      have HQ5 := Lib.hid hq
                      clear hq
                      by_cases hlj : j < (madeAt xs k).length
                      · have HLJ := Lib.hid (show j + 1 ≤ (madeAt xs k).length from hlj)
                        obtain ⟨b4, off4, hA5, hb4, hc4⟩ := (HVr.out.below (pt HB8.out HQ5.out)).at_ hlj
                        subst hA5
                        have s5 := hc4 j hlj
                        have hb4w : b4 < wr.heap.size := by have := (pt HB8.out HQ5.out).size; omega
                        have j0 : (0 : Int) ≤ (j : Int) := by omega
                        have j1 : (j : Int) < ((madeAt xs k).length : Int) := by omega
                        have hd4 := fun W (hW : Below w8.heap.size w8 W) => baseHasText_any w8.heap.size Af (ingredientsV xs (nameAt xs i)).length caf (ingredientsV xs (nameAt xs i)) ((madeAt xs k).getD j default) W (HFr.out.below hW) rfl (by have : (ingredientsV xs (nameAt xs i)).length ≤ xs.length := namesV_le _ _; omega)
                        rw [HDp.out j hlj] at hd4
                        generalize (madeAt xs k).getD j default = y at *
                        have HD4 := Lib.hid hd4
                        clear hd4 hc4
                        obtain ⟨u0, u1, f0, g0, v0, v1, s1, z1, z2, z3, z4⟩ := HFa.out _ HQ5.out
                        go_wp2
                        go_quiet ((go_at_call 60; exact Calls.quiet_of_same ((HD4.out _ (below_drewN' HQ5.out _)).mono fun e w' h => ⟨h.1, h.2.symm⟩)))
                        have HQ6 := Lib.hid (show Below w8.heap.size w8 (wr.drewN nq) from below_drewN' HQ5.out nq)
                        go_wp2
                        go_roundw
                        case rel => exact ⟨j + 1, by go_num, HLJ.out, HQ6.out⟩
                        case measure => (have hlj2 := HLJ.out; simp [intOf]; omega)
                      · obtain ⟨u0, u1, f0, g0, v0, v1, s1, z1, z2, z3, z4⟩ := HFa.out _ HQ5.out
                        go_wp2
                        go_roundw
                        case rel => exact ⟨k + 1, by rw [HS2.out], by go_num, by omega, HQ5.out⟩
                        case measure => simp [intOf]; omega
            · obtain rfl : k = xs.length := by omega
              have u0 := ((bcell (pt HB8.out HQ2.out)).1 _ _ hbB).trans HT0.out
              have z1 : b < wr.heap.size := by have := HQ2.out.size; omega
              go_wp2_with (go_at_call 60; go_must (refine (HSs.out i hlt _ HQ2.out).mono ?_); rintro e w' ⟨rfl, rfl⟩)
              go_roundw
              case rel => exact ⟨i + 1, by go_num, by omega, HQ2.out⟩
              case measure => simp [intOf]; omega
        · have HQ := Lib.hid (pt HB8.out hq)
          clear hq
          go_wp2
          go_ret
          exact ⟨rfl, HQ.out⟩

end Go.Proofs.Ytlgioldmjohhlaa
