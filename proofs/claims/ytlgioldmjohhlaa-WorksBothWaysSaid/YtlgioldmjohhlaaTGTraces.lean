/- WorksTraces: the statement. For every input the law returns true, and each argument reads afterwards as it read before. No condition. -/
import Derived.Test.YtlgioldmjohhlaaTFRefIngr
import Derived.Test.YtlgioldmjohhlaaT6Copies
import Derived.Test.YtlgioldmjohhlaaT7Works
import Derived.Test.YtlgioldmjohhlaaTBOpen
import Derived.Test.YtlgioldmjohhlaaM9
import Derived.ChangeMaps5
namespace Go.Proofs.Ytlgioldmjohhlaa
open Go.ChangeShapes Go.WideShapes Go.ChangeAt Go.RowKit Go.Joins Go.Deep

theorem refLotsErr_any (B : Nat) (xs : List Lot) (A : Option Addr) (c : Nat) (w : World) (hr : LotsIn B w A xs) (hB : B ≤ w.heap.size) (hs : SmallLots xs) (hcap : xs.length ≤ c) :
    Calls Try.prog 55 #[.slice A xs.length c] w fun e w' => e = .returned (.int .i64 (openLotsV xs).2) ∧ Below w.heap.size w w' := by
  have HC := Lib.hid (refCheckLots_any B xs A c w hr hB hs hcap)
  clear hr hs
  generalize (openLotsV xs).1 = I at *
  generalize (openLotsV xs).2 = E at *
  go_enter Try.func55, Try.ntmps55
  go_wp2_with (go_at_call 38; go_must (refine HC.out.mono ?_); rintro e w1 ⟨rfl, hb1⟩)
  go_ret
  exact ⟨rfl, hb1⟩

theorem find_all {xs : List Lot} (z : ByteArray) : (goneB (fromV xs xs.length) z = true → findG (hasName z) xs 0 = -1) := fun h => by
  have h1 := (find_gone (xs := xs) (Nat.le_refl _) z).1 h
  rwa [List.take_length] at h1


set_option maxHeartbeats 2000000 in
set_option maxRecDepth 100000 in
theorem traces_skip (A : Option Addr) (c : Nat) (xs : List Lot) (z : ByteArray) (w : World) (hr : LotsIn w.heap.size w A xs) (h : smallB xs = false ∨ (smallB xs = true ∧ 20 < z.size)) :
    Calls Try.prog 9 #[.slice A xs.length c, .string z] w fun e w' => e = .returned (.bool true) ∧ Below w.heap.size w w' := by
  have HBx := Lib.hid (Below.refl w.heap.size w)
  have hsm := fun W (hW : Below w.heap.size w W) => small_any w.heap.size xs A c W (hr.below hW) hW.size
  rcases h with h | ⟨h, hz⟩
  · rw [h] at hsm
    have HSm := Lib.hid hsm
    clear hr hsm h
    go_enter Try.func9, Try.ntmps9
    go_wp2_with (first
      | (go_at_call 15; refine (awake_any _).mono ?_; rintro e w1 ⟨rfl, hb⟩; replace HBx := Lib.hid (pt HBx.out hb); clear hb)
      | (go_at_call 34; go_must (refine (HSm.out _ HBx.out).mono ?_); rintro e w1 ⟨rfl, hb⟩; replace HBx := Lib.hid (pt HBx.out hb); clear hb))
    go_ret
    exact ⟨rfl, HBx.out⟩
  · rw [h] at hsm
    have HSm := Lib.hid hsm
    have hz2 : (20 : Int) < (z.size : Int) := by omega
    clear hr hsm h
    go_enter Try.func9, Try.ntmps9
    go_wp2_with (first
      | (go_at_call 15; refine (awake_any _).mono ?_; rintro e w1 ⟨rfl, hb⟩; replace HBx := Lib.hid (pt HBx.out hb); clear hb)
      | (go_at_call 34; go_must (refine (HSm.out _ HBx.out).mono ?_); rintro e w1 ⟨rfl, hb⟩; replace HBx := Lib.hid (pt HBx.out hb); clear hb))
    go_ret
    exact ⟨rfl, HBx.out⟩

set_option maxHeartbeats 4000000 in
set_option maxRecDepth 100000 in
theorem traces_bad (A : Option Addr) (c : Nat) (xs : List Lot) (z : ByteArray) (w : World) (hr : LotsIn w.heap.size w A xs) (hcap : xs.length ≤ c) (h : smallB xs = true) (hz : z.size ≤ 20) (h0 : memberE xs z ≠ 0) :
    Calls Try.prog 9 #[.slice A xs.length c, .string z] w fun e w' => e = .returned (.bool true) ∧ Below w.heap.size w w' := by
  have HBx := Lib.hid (Below.refl w.heap.size w)
  have hs := small_lots h
  have hsm := fun W (hW : Below w.heap.size w W) => small_any w.heap.size xs A c W (hr.below hW) hW.size
  rw [h] at hsm
  have hin := fun W A1 c1 (h1 : LotsIn W.heap.size W A1 xs) => ingredients_err W.heap.size xs z A1 c1 W h1 (Nat.le_refl _) hs (by omega) h0
  have hpr := fun W A1 c1 (h1 : LotsIn W.heap.size W A1 xs) => products_err W.heap.size xs z A1 c1 W h1 (Nat.le_refl _) hs (by omega) h0
  have hle := fun W (hW : Below w.heap.size w W) => refLotsErr_any w.heap.size xs A c W (hr.below hW) hW.size hs hcap
  have hnm := fun W => baseIsName_any z W (by omega)
  have hfd := fun W (hW : Below w.heap.size w W) => refFind_any w.heap.size xs A xs.length c z W (hr.below hW) rfl hs.1
  have hE := Lib.hid (show memberE xs z = firstV [(openLotsV xs).2, unlessV (nameB z) 4, unlessV (!goneB (fromV xs xs.length) z) 6] from rfl)
  have hz1 : decide ((20 : Int) < (z.size : Int)) = false := decide_eq_false (by omega)
  have hz2 : ¬ 20 < z.size := by omega
  have HFa := Lib.hid (find_all (xs := xs) z)
  have HSm := Lib.hid hsm
  have HR := Lib.hid hr
  have HS := Lib.hid hs
  clear hr hsm h hs
  generalize (openLotsV xs).2 = E at *
  by_cases hE0 : E = 0
  · subst hE0
    cases hnb : nameB z with
    | false =>
      have h4 : memberE xs z = 4 := by rw [hE.out, hnb]; rfl
      rw [h4] at hin hpr
      rw [hnb] at hnm
      have HIn := Lib.hid hin
      have HPr := Lib.hid hpr
      have HLe := Lib.hid hle
      have HNm := Lib.hid hnm
      clear hin hpr hle hnm hfd h4 hnb h0
      go_enter Try.func9, Try.ntmps9
      go_wp2_with (first
        | (go_at_call 15; refine (awake_any _).mono ?_; rintro e w1 ⟨rfl, hb⟩; replace HBx := Lib.hid (pt HBx.out hb); clear hb)
        | (go_at_call 34; go_must (refine (HSm.out _ HBx.out).mono ?_); rintro e w1 ⟨rfl, hb⟩; replace HBx := Lib.hid (pt HBx.out hb); clear hb)
        | (go_at_call 36; go_must (refine (copyLots_any w.heap.size xs A xs.length c _ (HR.out.below HBx.out) rfl HBx.out.size HS.out).mono ?_); rintro e w2 ⟨A1, c1, rfl, hl1, hc1, hb⟩; have HL1 := Lib.hid hl1; skip; replace HBx := Lib.hid (pt HBx.out hb); clear hb; clear hl1)
        | (go_at_call 53; go_must (refine (HIn.out _ A1 c1 HL1.out).mono ?_); rintro e w4 ⟨rfl, hb⟩; replace HBx := Lib.hid (pt HBx.out hb); clear hb)
        | (go_at_call 54; go_must (refine (HPr.out _ A1 c1 HL1.out).mono ?_); rintro e w4 ⟨rfl, hb⟩; replace HBx := Lib.hid (pt HBx.out hb); clear hb)
        | (go_at_call 55; go_must (refine (HLe.out _ HBx.out).mono ?_); rintro e w3 ⟨rfl, hb⟩; skip; replace HBx := Lib.hid (pt HBx.out hb); clear hb)
        | (go_at_call 56; go_must (refine (HNm.out _).mono ?_); rintro e w4 ⟨rfl, rfl⟩))
      go_ret
      exact ⟨rfl, HBx.out⟩
    | true =>
      have hg : goneB (fromV xs xs.length) z = true := by
        cases hg : goneB (fromV xs xs.length) z with
        | true => rfl
        | false => exact absurd (by rw [hE.out, hnb, hg]; rfl) h0
      have h4 : memberE xs z = 6 := by rw [hE.out, hnb, hg]; rfl
      rw [h4] at hin hpr
      rw [hnb] at hnm
      rw [HFa.out hg] at hfd
      have HIn := Lib.hid hin
      have HPr := Lib.hid hpr
      have HLe := Lib.hid hle
      have HNm := Lib.hid hnm
      have HFd := Lib.hid hfd
      clear hin hpr hle hnm hfd h4 hnb h0 hg
      go_enter Try.func9, Try.ntmps9
      go_wp2_with (first
        | (go_at_call 15; refine (awake_any _).mono ?_; rintro e w1 ⟨rfl, hb⟩; replace HBx := Lib.hid (pt HBx.out hb); clear hb)
        | (go_at_call 34; go_must (refine (HSm.out _ HBx.out).mono ?_); rintro e w1 ⟨rfl, hb⟩; replace HBx := Lib.hid (pt HBx.out hb); clear hb)
        | (go_at_call 36; go_must (refine (copyLots_any w.heap.size xs A xs.length c _ (HR.out.below HBx.out) rfl HBx.out.size HS.out).mono ?_); rintro e w2 ⟨A1, c1, rfl, hl1, hc1, hb⟩; have HL1 := Lib.hid hl1; skip; replace HBx := Lib.hid (pt HBx.out hb); clear hb; clear hl1)
        | (go_at_call 53; go_must (refine (HIn.out _ A1 c1 HL1.out).mono ?_); rintro e w4 ⟨rfl, hb⟩; replace HBx := Lib.hid (pt HBx.out hb); clear hb)
        | (go_at_call 54; go_must (refine (HPr.out _ A1 c1 HL1.out).mono ?_); rintro e w4 ⟨rfl, hb⟩; replace HBx := Lib.hid (pt HBx.out hb); clear hb)
        | (go_at_call 55; go_must (refine (HLe.out _ HBx.out).mono ?_); rintro e w3 ⟨rfl, hb⟩; skip; replace HBx := Lib.hid (pt HBx.out hb); clear hb)
        | (go_at_call 56; go_must (refine (HNm.out _).mono ?_); rintro e w4 ⟨rfl, rfl⟩)
        | (go_at_call 57; go_must (refine (HFd.out _ HBx.out).mono ?_); rintro e w4 ⟨rfl, rfl⟩))
      go_ret
      exact ⟨rfl, HBx.out⟩
  · have h4 : memberE xs z = E := by rw [hE.out]; show (if E = 0 then _ else E) = E; rw [if_neg hE0]
    rw [h4] at hin hpr
    have hne : (E == 0) = false := by simpa using hE0
    have hne2 : (E != 0) = true := by simpa using hE0
    have HIn := Lib.hid hin
    have HPr := Lib.hid hpr
    have HLe := Lib.hid hle
    clear hin hpr hle hnm hfd h4 h0 hE0
    go_enter Try.func9, Try.ntmps9
    go_wp2_with (first
      | (go_at_call 15; refine (awake_any _).mono ?_; rintro e w1 ⟨rfl, hb⟩; replace HBx := Lib.hid (pt HBx.out hb); clear hb)
      | (go_at_call 34; go_must (refine (HSm.out _ HBx.out).mono ?_); rintro e w1 ⟨rfl, hb⟩; replace HBx := Lib.hid (pt HBx.out hb); clear hb)
      | (go_at_call 36; go_must (refine (copyLots_any w.heap.size xs A xs.length c _ (HR.out.below HBx.out) rfl HBx.out.size HS.out).mono ?_); rintro e w2 ⟨A1, c1, rfl, hl1, hc1, hb⟩; have HL1 := Lib.hid hl1; skip; replace HBx := Lib.hid (pt HBx.out hb); clear hb; clear hl1)
      | (go_at_call 53; go_must (refine (HIn.out _ A1 c1 HL1.out).mono ?_); rintro e w4 ⟨rfl, hb⟩; replace HBx := Lib.hid (pt HBx.out hb); clear hb)
      | (go_at_call 54; go_must (refine (HPr.out _ A1 c1 HL1.out).mono ?_); rintro e w4 ⟨rfl, hb⟩; replace HBx := Lib.hid (pt HBx.out hb); clear hb)
      | (go_at_call 55; go_must (refine (HLe.out _ HBx.out).mono ?_); rintro e w3 ⟨rfl, hb⟩; skip; replace HBx := Lib.hid (pt HBx.out hb); clear hb))
    go_ret
    exact ⟨rfl, HBx.out⟩


set_option maxHeartbeats 4000000 in
set_option maxRecDepth 100000 in
theorem traces_go (A : Option Addr) (c : Nat) (xs : List Lot) (z : ByteArray) (w : World) (hr : LotsIn w.heap.size w A xs) (hcap : xs.length ≤ c) (h : smallB xs = true) (hz : z.size ≤ 20) (h0 : memberE xs z = 0) :
    Calls Try.prog 9 #[.slice A xs.length c, .string z] w fun e w' => e = .returned (.bool true) ∧ Below w.heap.size w w' := by
  have HBx := Lib.hid (Below.refl w.heap.size w)
  have hs := small_lots h
  obtain ⟨hE0, hnb, hg⟩ := member_ok h0
  have ok := lotsOk_of hE0
  obtain ⟨a, ha, rfl⟩ := gone_false (Nat.le_refl _) hg
  have hsm := fun W (hW : Below w.heap.size w W) => small_any w.heap.size xs A c W (hr.below hW) hW.size
  rw [h] at hsm
  have hin := fun W A1 c1 (h1 : LotsIn W.heap.size W A1 xs) => ingredients_ok W.heap.size xs (nameAt xs a) A1 c1 W h1 (Nat.le_refl _) hs (by omega) h0
  have hpr := fun W A1 c1 (h1 : LotsIn W.heap.size W A1 xs) => products_ok W.heap.size xs (nameAt xs a) A1 c1 W h1 (Nat.le_refl _) hs (by omega) h0
  have hle := fun W (hW : Below w.heap.size w W) => refLotsErr_any w.heap.size xs A c W (hr.below hW) hW.size hs hcap
  rw [hE0] at hle
  have hnm := fun W => baseIsName_any (nameAt xs a) W (by omega)
  rw [hnb] at hnm
  have hfd := fun W (hW : Below w.heap.size w W) => refFind_any w.heap.size xs A xs.length c (nameAt xs a) W (hr.below hW) rfl hs.1
  rw [find_name ok ha] at hfd
  have HRi := Lib.hid fun W (hW : Below w.heap.size w W) => refIngredients_any w.heap.size xs A c a W (hr.below hW) hW.size ok ha
  have HRp := Lib.hid fun W (hW : Below w.heap.size w W) => refProducts_any w.heap.size xs A c a W (hr.below hW) hW.size ok ha
  have hz1 : decide ((20 : Int) < ((nameAt xs a).size : Int)) = false := decide_eq_false (by omega)
  have hz2 : ¬ 20 < (nameAt xs a).size := by omega
  have ha0 : decide ((a : Int) < 0) = false := decide_eq_false (by omega)
  have hl1 : (ingredientsV xs (nameAt xs a)).length ≤ 1000 := Nat.le_trans (namesV_le _ _) hs.1
  have hl2 : (productsV xs (nameAt xs a)).length ≤ 1000 := Nat.le_trans (namesV_le _ _) hs.1
  have HSm := Lib.hid hsm
  have HR := Lib.hid hr
  have HS := Lib.hid hs
  have HIn := Lib.hid hin
  have HPr := Lib.hid hpr
  have HLe := Lib.hid hle
  have HNm := Lib.hid hnm
  have HFd := Lib.hid hfd
  clear hr hsm h hs hin hpr hle hnm hfd h0 hE0 hnb hg ok
  generalize ingredientsV xs (nameAt xs a) = L1 at *
  generalize productsV xs (nameAt xs a) = L2 at *
  generalize nameAt xs a = z at *
  go_enter Try.func9, Try.ntmps9
  go_wp2_with (first
    | (go_at_call 15; refine (awake_any _).mono ?_; rintro e w1 ⟨rfl, hb⟩; replace HBx := Lib.hid (pt HBx.out hb); clear hb)
    | (go_at_call 34; go_must (refine (HSm.out _ HBx.out).mono ?_); rintro e w1 ⟨rfl, hb⟩; replace HBx := Lib.hid (pt HBx.out hb); clear hb)
    | (go_at_call 36; go_must (refine (copyLots_any w.heap.size xs A xs.length c _ (HR.out.below HBx.out) rfl HBx.out.size HS.out).mono ?_); rintro e w2 ⟨A1, c1, rfl, hl1, hc1, hb⟩; have HL1 := Lib.hid hl1; (try (replace HI5 := Lib.hid ((HI5.out.below hb).more hb.size))); replace HBx := Lib.hid (pt HBx.out hb); clear hb; clear hl1)
    | (go_at_call 53; go_must (refine (HIn.out _ A1 c1 HL1.out).mono ?_); rintro e w4 ⟨A5, c5, rfl, hi5, _, hb⟩; have HI5 := Lib.hid hi5; clear hi5; replace HBx := Lib.hid (pt HBx.out hb); clear hb)
    | (go_at_call 54; go_must (refine (HPr.out _ A1 c1 HL1.out).mono ?_); rintro e w4 ⟨A7, c7, rfl, hi7, _, hb⟩; have HI7 := Lib.hid hi7; clear hi7; (replace HI5 := Lib.hid ((HI5.out.below hb).more hb.size)); replace HBx := Lib.hid (pt HBx.out hb); clear hb)
    | (go_at_call 55; go_must (refine (HLe.out _ HBx.out).mono ?_); rintro e w3 ⟨rfl, hb⟩; (replace HI5 := Lib.hid ((HI5.out.below hb).more hb.size)); (replace HI7 := Lib.hid ((HI7.out.below hb).more hb.size)); replace HBx := Lib.hid (pt HBx.out hb); clear hb)
    | (go_at_call 56; go_must (refine (HNm.out _).mono ?_); rintro e w4 ⟨rfl, rfl⟩)
    | (go_at_call 57; go_must (refine (HFd.out _ HBx.out).mono ?_); rintro e w4 ⟨rfl, rfl⟩)
    | (go_at_call 58; go_must (refine (HRi.out _ HBx.out).mono ?_); rintro e w5 ⟨A6, c6, rfl, hi6, _, hb⟩; have HI6 := Lib.hid hi6; clear hi6; (replace HI5 := Lib.hid ((HI5.out.below hb).more hb.size)); (replace HI7 := Lib.hid ((HI7.out.below hb).more hb.size)); replace HBx := Lib.hid (pt HBx.out hb); clear hb)
    | (go_at_call 59; go_must (refine (HRp.out _ HBx.out).mono ?_); rintro e w5 ⟨A8, c8, rfl, hi8, _, hb⟩; have HI8 := Lib.hid hi8; clear hi8; (replace HI7 := Lib.hid ((HI7.out.below hb).more hb.size)); replace HBx := Lib.hid (pt HBx.out hb); clear hb)
    | (go_at_call 43; (with_reducible refine (texts_any _ A5 A6 c5 c6 L1 L1 _ HI5.out HI6.out (by omega)).mono ?_); rintro e w6 ⟨rfl, hb⟩; rw [show textsB L1 L1 = true by simp [textsB]]; (replace HI7 := Lib.hid ((HI7.out.below hb).more hb.size)); replace HBx := Lib.hid (pt HBx.out hb); clear hb)
    | (go_at_call 43; go_must (refine (texts_any _ A7 A8 c7 c8 L2 L2 _ HI7.out HI8.out (by omega)).mono ?_); rintro e w6 ⟨rfl, hb⟩; rw [show textsB L2 L2 = true by simp [textsB]]; replace HBx := Lib.hid (pt HBx.out hb); clear hb))
  go_ret
  exact ⟨rfl, HBx.out⟩

theorem traces_walk (A : Option Addr) (c : Nat) (xs : List Lot) (z : ByteArray) (w : World) (hr : LotsIn w.heap.size w A xs) (hcap : xs.length ≤ c) :
    Calls Try.prog 9 #[.slice A xs.length c, .string z] w fun e w' => e = .returned (.bool true) ∧ Below w.heap.size w w' := by
  cases h : smallB xs with
  | false => exact traces_skip A c xs z w hr (.inl h)
  | true =>
    by_cases hz : z.size ≤ 20
    · by_cases h0 : memberE xs z = 0
      · exact traces_go A c xs z w hr hcap h hz h0
      · exact traces_bad A c xs z w hr hcap h hz h0
    · exact traces_skip A c xs z w hr (.inr ⟨h, by omega⟩)

set_option maxRecDepth 100000 in
theorem traces_lifted (os : Os) (started : os.Started) (H : Type) (enc : TypeId × Value → H) :
    ReturnsInHanded {} Try.checked os 9 .any (Rows.worksTracesSpec.pre6 enc Try.prog Try.f9 Rows.worksTracesRow.domain false) (Rows.worksTracesSpec.post enc Try.prog Try.f9 false true false false) := by
  refine returnsInHanded_of_change (C := Try.checked) own_knob started (by kernel_rfl) Try.func9
    (ChangeSpec.witness6 (enc := enc) (C := Try.checked) false ⟨#[], #[.slice none 0 0, .string ByteArray.empty], []⟩ 8 (by kernel_rfl) (by kernel_rfl) (by kernel_rfl) (by kernel_rfl)) ?_
  intro W base args ds gs before hval0 hW _ _
  have hval : ∀ (j : Nat) t v, Try.f9.params[j]? = some t → args[j]? = some v → Value.okWide Try.prog W .any base t v := hval0
  have hW' := hW
  obtain ⟨p, q, hA0, hV, rfl, hfz, hnd⟩ := hW
  have hA : DataW.TrodAll enc Try.prog W 0 (fun _ => true) true Try.f9.params.toList args.toList ds p := hA0
  rw [Try.params9] at hA hval
  obtain ⟨v0, vs0, d0, ds0, p0, q0, hargs, rfl, rfl, h0, r0⟩ := trodAll_cons hA
  obtain ⟨v1, vs1, d1, ds1, p1, q1, rfl, rfl, rfl, h1, r1⟩ := trodAll_cons r0
  obtain ⟨rfl, rfl, rfl⟩ := trodAll_nil r1
  obtain rfl : args = #[v0, v1] := by cases args; simp_all
  obtain ⟨A, c, xs, rfl, hi_, hcap, hm⟩ := open_lots_arg (hval 0 _ v0 rfl rfl) h0
  obtain ⟨z, rfl, rfl, rfl, _⟩ := Go.ChangeMaps.open_string Try.underlying9 (hval 1 _ v1 rfl rfl) h1
  clear hA0 hval0 hval hA h0 h1 r0 r1
  refine (traces_walk A c xs z W hi_ hcap).mono fun e W' ⟨he, hb⟩ => ?_
  subst he
  exact law_end laid_out (fun t ht => (by decide +kernel : ∀ t ∈ Try.f9.params.toList, Try.prog.readableRec t = true ∧ t < Try.prog.types.size) t ht) rfl Try.underlying4 rfl rfl hW' hb

theorem traces_over : Rows.worksTracesRow.holds Try.pinned (OpenSpec.ofChange Rows.worksTracesSpec) :=
  OpenClaim.holds_of_wide 9 Try.f9 rfl rfl rfl rfl rfl rfl rfl ⟨rfl, rfl, rfl, rfl, rfl⟩ rfl rfl rfl rfl rfl (by kernel_rfl) Try.func9 (by kernel_rfl)
    (of_decide_eq_true (by kernel_rfl)) (by unfold Func.isWrapper; first | (rw [if_pos (by decide +kernel)]; kernel_rfl) | (rw [if_neg (by decide +kernel)]; exact ⟨rfl, rfl⟩))
    (fun os started H enc _ => traces_lifted os started H enc)

theorem traces_holds : Rows.WorksTracesSaid := traces_over
#print axioms traces_holds

end Go.Proofs.Ytlgioldmjohhlaa
