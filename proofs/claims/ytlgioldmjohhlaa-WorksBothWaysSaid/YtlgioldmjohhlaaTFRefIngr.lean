/- Contracts: the specification's IngredientsOf and ProductsOf, over the same values as the program's. Lots are valid, the lot is there. -/
import Derived.Test.YtlgioldmjohhlaaTEIngr
namespace Go.Proofs.Ytlgioldmjohhlaa
open Go.RowKit

theorem ingredients_pick {xs : List Lot} (ok : LotsOk xs) {a : Nat} (ha : a < xs.length) : pickV (ingD xs a) xs xs.length = ingredientsV xs (nameAt xs a) :=
  pick_all fun i hi => by rw [inner_at ok (Nat.le_refl _) ha]; rfl
theorem products_pick {xs : List Lot} (ok : LotsOk xs) {a : Nat} : pickV (fun i => ingD xs i a) xs xs.length = productsV xs (nameAt xs a) :=
  pick_all fun i hi => by
    show innerOf (fromV xs xs.length) (nameAt xs i) (nameAt xs a) = _
    rw [inner_at ok (Nat.le_refl _) hi]; rfl

set_option maxHeartbeats 2000000 in
set_option maxRecDepth 100000 in
theorem refIngredients_any (B : Nat) (xs : List Lot) (A : Option Addr) (c a : Nat) (w : World) (hr : LotsIn B w A xs) (hB : B ≤ w.heap.size) (ok : LotsOk xs) (ha : a < xs.length) :
    Calls Try.prog 58 #[.slice A xs.length c, .string (nameAt xs a)] w (TextsRet w (ingredientsV xs (nameAt xs a))) := by
  obtain ⟨i0, hi0, hz0, hz1, hz2⟩ := info_parts string_info
  have hle := ok.1
  have HSu := Lib.hid (ingredients_pick ok ha)
  generalize ingredientsV xs (nameAt xs a) = YS at *
  have hfd := fun W (hW : Below w.heap.size w W) => refFind_any B xs A xs.length c (nameAt xs a) W (hr.below (hW.mono hB)) rfl (by omega)
  rw [find_name ok ha] at hfd
  have HFd := Lib.hid hfd
  have HIn := Lib.hid fun W (hW : Below w.heap.size w W) => refIn_any B xs A c a W (hr.below (hW.mono hB)) (Nat.le_trans hB hW.size) ok ha
  have HR := Lib.hid hr
  clear ok hr hfd
  generalize hza : nameAt xs a = z at *
  clear hza
  go_enter Try.func58, Try.ntmps58
  go_wp2_with (first
    | (go_at_call 57; go_must (refine (HFd.out _ pr).mono ?_); rintro e w' ⟨rfl, rfl⟩)
    | (go_at_call 105; go_must (refine (HIn.out _ pr).mono ?_); rintro e w2 ⟨g, rfl, hg, hg2, hb2⟩; have HG := Lib.hid hg; have HB2 := Lib.hid hb2; have hgl := hg.lt; have hb2s := hb2.size; clear hg hb2))
  go_loopw [6, 7] (fun ov ix wr => ∃ (i : Nat) (A' : Option Addr) (c' : Nat), ov = .slice A' (pickV (ingD xs a) xs i).length c' ∧ ix = .int .i64 (i : Int) ∧ i ≤ xs.length ∧ wr.ownsRow w2.heap.size 9 1 (.slice A' (pickV (ingD xs a) xs i).length c') (pickV (ingD xs a) xs i).length ((pickV (ingD xs a) xs i).map Value.string) ∧ Below w2.heap.size w2 wr) (fun _ ix _ => xs.length - (intOf ix).toNat)
  case atStart => exact ⟨0, none, 0, rfl, rfl, Nat.zero_le _, World.ownsRow_nil _ _ _ _, pr⟩
  case round =>
    obtain ⟨i, A', c', rfl, rfl, hi, hown, hq⟩ := hrel
    by_cases hlt : i < xs.length
    · obtain ⟨b, off, hA, hbB, hct⟩ := HR.out.at_ hlt
      subst hA
      have hbw2 := pt HB2.out hq
      have t0 := ((bcell (hbw2.mono hB)).1 _ _ hbB).trans (hct i hlt).1
      have hqs := hq.size
      have hbw : b < wr.heap.size := by omega
      have gc : wr.cell? ⟨g, i, none⟩ = some (.bool (ingD xs a i)) := (HG.out.past hq).cellAt i (marks_at hlt)
      have hgw : g < wr.heap.size := by omega
      have n0 : (0 : Int) ≤ (i : Int) := by omega
      have n1 : (i : Int) < (xs.length : Int) := by omega
      have HStep := Lib.hid (show pickV (ingD xs a) xs (i + 1) = pickV (ingD xs a) xs i ++ if ingD xs a i then [(xs.getD i default).name] else [] from rfl)
      have hlen := pick_len (ingD xs a) xs i
      generalize pickV (ingD xs a) xs i = ys at *
      generalize xs.getD i default = x at *
      have HQ := Lib.hid hq
      clear hct hbw2 hq
      cases hin : ingD xs a i with
      | false =>
        rw [hin] at gc
        have HSt := Lib.hid (show pickV (ingD xs a) xs (i + 1) = ys by rw [HStep.out, hin]; simp)
        have HOwn := Lib.hid hown
        clear hin hown
        go_wp2
        go_roundw
        case rel => exact ⟨i + 1, A', c', by rw [HSt.out], by go_num, by omega, by rw [HSt.out]; exact HOwn.out, HQ.out⟩
        case measure => simp [intOf]; omega
      | true =>
        rw [hin] at gc
        have HSt := Lib.hid (show pickV (ingD xs a) xs (i + 1) = ys ++ [x.name] by rw [HStep.out, hin]; simp)
        have HC := Lib.hid (cellsIn_new wr 9 (.string x.name))
        have HO3 := Lib.hid (hown.alloc (.cells #[.string x.name] 9))
        clear hin hown
        go_wp2_with (at_builtin; go_must (refine wpList_append_cells _ rfl (.tmp 23) (.tmp 29) _ rfl w2.heap.size 9 i0 _ 1 16 Try.underlying53 hi0 hz0 hz1 hz2 rfl (by omega) _ ys.length _ rfl HO3.out (wr.heap.size + 1) (some ⟨wr.heap.size, 0, none⟩) 1 1 _ rfl HC.out rfl (by simp [Value.oneCell']) (by simp only [maxLen]; omega) (by omega) (by simp; omega) ?_); intro v4 w4 hown4 hg4 hat4; obtain ⟨A4, c4, rfl, hc4, hm4⟩ := own_form hown4)
        have HB4 := Lib.hid (show Below w2.heap.size w2 w4 from pg (pa HQ.out) HO3.out (Nat.le_refl _) hg4)
        have HOwn4 := Lib.hid hown4
        clear hown4 hg4 hat4
        go_roundw
        case rel => exact ⟨i + 1, A4, c4, by rw [HSt.out]; simp, by go_num, by omega, by rw [HSt.out]; simpa using HOwn4.out, HB4.out⟩
        case measure => simp [intOf]; omega
    · obtain rfl : i = xs.length := by omega
      rw [HSu.out] at hown ⊢
      have HRow := Lib.hid (rowS_of_own hown)
      obtain ⟨A2, c2, hv, hcap, _⟩ := own_form hown
      have hcap' : YS.length ≤ c' := by injection hv with _ _ h; omega
      clear hown hv
      go_wp2
      go_ret
      exact ⟨A', c', rfl, HRow.out, hcap', pt HB2.out hq⟩

set_option maxHeartbeats 2000000 in
set_option maxRecDepth 100000 in
theorem refProducts_any (B : Nat) (xs : List Lot) (A : Option Addr) (c a : Nat) (w : World) (hr : LotsIn B w A xs) (hB : B ≤ w.heap.size) (ok : LotsOk xs) (ha : a < xs.length) :
    Calls Try.prog 59 #[.slice A xs.length c, .string (nameAt xs a)] w (TextsRet w (productsV xs (nameAt xs a))) := by
  obtain ⟨i0, hi0, hz0, hz1, hz2⟩ := info_parts string_info
  have hle := ok.1
  have HSu := Lib.hid (products_pick ok (a := a))
  generalize productsV xs (nameAt xs a) = YS at *
  have hfd := fun W (hW : Below w.heap.size w W) => refFind_any B xs A xs.length c (nameAt xs a) W (hr.below (hW.mono hB)) rfl (by omega)
  rw [find_name ok ha] at hfd
  have HFd := Lib.hid hfd
  have HIn := Lib.hid fun W (hW : Below w.heap.size w W) i (hi : i < xs.length) => refIn_any B xs A c i W (hr.below (hW.mono hB)) (Nat.le_trans hB hW.size) ok hi
  have HR := Lib.hid hr
  have a0 : (0 : Int) ≤ (a : Int) := by omega
  have a1 : (a : Int) < (xs.length : Int) := by omega
  clear ok hr hfd
  generalize hza : nameAt xs a = z at *
  clear hza
  go_enter Try.func59, Try.ntmps59
  go_wp2_with (go_at_call 57; go_must (refine (HFd.out _ pr).mono ?_); rintro e w' ⟨rfl, rfl⟩)
  go_loopw [6, 7] (fun ov ix wr => ∃ (i : Nat) (A' : Option Addr) (c' : Nat), ov = .slice A' (pickV (fun i => ingD xs i a) xs i).length c' ∧ ix = .int .i64 (i : Int) ∧ i ≤ xs.length ∧ wr.ownsRow w.heap.size 9 1 (.slice A' (pickV (fun i => ingD xs i a) xs i).length c') (pickV (fun i => ingD xs i a) xs i).length ((pickV (fun i => ingD xs i a) xs i).map Value.string) ∧ Below w.heap.size w wr) (fun _ ix _ => xs.length - (intOf ix).toNat)
  case atStart => exact ⟨0, none, 0, rfl, rfl, Nat.zero_le _, World.ownsRow_nil _ _ _ _, pr⟩
  case round =>
    obtain ⟨i, A', c', rfl, rfl, hi, hown, hq⟩ := hrel
    by_cases hlt : i < xs.length
    · obtain ⟨b, off, hA, hbB, hct⟩ := HR.out.at_ hlt
      subst hA
      have T0 := Lib.hid (hct i hlt).1
      have hqs := hq.size
      have n0 : (0 : Int) ≤ (i : Int) := by omega
      have n1 : (i : Int) < (xs.length : Int) := by omega
      have HStep := Lib.hid (show pickV (fun i => ingD xs i a) xs (i + 1) = pickV (fun i => ingD xs i a) xs i ++ if ingD xs i a then [(xs.getD i default).name] else [] from rfl)
      have hlen := pick_len (fun i => ingD xs i a) xs i
      generalize pickV (fun i => ingD xs i a) xs i = ys at *
      generalize xs.getD i default = x at *
      have HQ := Lib.hid hq
      have HOwn0 := Lib.hid hown
      clear hct hq hown
      cases hin : ingD xs i a with
      | false =>
        have HSt := Lib.hid (show pickV (fun i => ingD xs i a) xs (i + 1) = ys by rw [HStep.out, hin]; simp)
        go_wp2_with (go_at_call 105; go_must (refine (HIn.out _ HQ.out i hlt).mono ?_); rintro e w2 ⟨g, rfl, hg, hg2, hb2⟩; have gc : w2.cell? ⟨g, a, none⟩ = some (.bool false) := hin ▸ hg.cellAt a (marks_at ha); have hgl := hg.lt; have HB2 := Lib.hid hb2; clear hb2 hg)
        have HOwn := Lib.hid (ownsRow_past HB2.out HOwn0.out)
        clear gc
        go_roundw
        case rel => exact ⟨i + 1, A', c', by rw [HSt.out], by go_num, by omega, by rw [HSt.out]; exact HOwn.out, pt HQ.out HB2.out⟩
        case measure => simp [intOf]; omega
      | true =>
        have HSt := Lib.hid (show pickV (fun i => ingD xs i a) xs (i + 1) = ys ++ [x.name] by rw [HStep.out, hin]; simp)
        go_wp2_with (first
          | (go_at_call 105; go_must (refine (HIn.out _ HQ.out i hlt).mono ?_); rintro e w2 ⟨g, rfl, hg, hg2, hb2⟩; have gc : w2.cell? ⟨g, a, none⟩ = some (.bool true) := hin ▸ hg.cellAt a (marks_at ha); have hgl := hg.lt; have HB2 := Lib.hid hb2; have hb2s := hb2.size; have t0 := ((bcell ((pt HQ.out hb2).mono hB)).1 _ _ hbB).trans T0.out; have hbw : b < w2.heap.size := (by omega); have HC := Lib.hid (cellsIn_new w2 9 (.string x.name)); have HO3 := Lib.hid ((ownsRow_past hb2 HOwn0.out).alloc (.cells #[.string x.name] 9)); clear hb2 hg)
          | (at_builtin; go_must (refine wpList_append_cells _ rfl (.tmp 23) (.tmp 29) _ rfl w.heap.size 9 i0 _ 1 16 Try.underlying53 hi0 hz0 hz1 hz2 rfl (by omega) _ ys.length _ rfl HO3.out (w2.heap.size + 1) (some ⟨w2.heap.size, 0, none⟩) 1 1 _ rfl HC.out rfl (by simp [Value.oneCell']) (by simp only [maxLen]; omega) (by omega) (by simp; omega) ?_); intro v4 w4 hown4 hg4 hat4; obtain ⟨A4, c4, rfl, hc4, hm4⟩ := own_form hown4))
        have HB4 := Lib.hid (show Below w.heap.size w w4 from pg (pa (pt HQ.out HB2.out)) HO3.out (Nat.le_refl _) hg4)
        have HOwn4 := Lib.hid hown4
        clear hown4 hg4 hat4 gc
        go_roundw
        case rel => exact ⟨i + 1, A4, c4, by rw [HSt.out]; simp, by go_num, by omega, by rw [HSt.out]; simpa using HOwn4.out, HB4.out⟩
        case measure => simp [intOf]; omega
    · obtain rfl : i = xs.length := by omega
      rw [HSu.out] at hown ⊢
      have HRow := Lib.hid (rowS_of_own hown)
      obtain ⟨A2, c2, hv, hcap, _⟩ := own_form hown
      have hcap' : YS.length ≤ c' := by injection hv with _ _ h; omega
      clear hown hv
      go_wp2
      go_ret
      exact ⟨A', c', rfl, HRow.out, hcap', hq⟩

end Go.Proofs.Ytlgioldmjohhlaa
