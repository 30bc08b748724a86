/- Contracts: a lot and its family, the ingredients and the products of a lot. Names of at most 1000 bytes.
Contracts: the specification's LotErr, AcceptOf and CheckLots, over the same values as the program's.
Contract: the specification's CheckLots, over the same value as the program's.
Contract: the specification's list of the ingredients of a lot, as marks. Lots are valid.
Contract: the specification's SuspectsIn, over the same value as the program's. Lots are valid.
Contracts: the ingredients and the products of a lot: the program's and the specification's. Names of at most 1000 bytes.
Contracts: the ingredients and the products of a lot, as rows of strings in blocks of their own. Names of at most 1000 bytes.
Lots in memory, one of them turned; what the top law's calls answer for lots with turned limits. -/
import Derived.Test.YtbojmcopagbheaaGreatDoorR5
import Derived.Laws.Cover3
import Derived.Deep.RegionHeld3
import Derived.Deep.QuietTactic
import Derived.BigQuiet
import Derived.Deep.OwnRows

section
namespace Go.Proofs.YtbojmcopagbheaaGreatDoor
open Go.RowKit Go.Maps

def memberE (xs : List Lot) (z : ByteArray) : Int := firstV [(openLotsV xs).2, unlessV (nameB z) 4, unlessV (!goneB (fromV xs xs.length) z) 6]
theorem memberE_bad {xs : List Lot} {z : ByteArray} (h : (openLotsV xs).2 ≠ 0) (F : Fam) : memberE xs z = firstV [(openLotsV xs).2, unlessV (nameB z) 4, unlessV (!goneB F z) 6] := by
  unfold memberE
  simp [firstV, h]

/-- What is returned by the function that opens lots and looks for one. -/
def MemberPost (xs : List Lot) (z : ByteArray) (A : Option Addr) (c : Nat) (w : World) (e : Ending) (w' : World) : Prop :=
  ∃ fm, e = .returned (.tuple #[.agg #[.slice A xs.length c, .map (some fm)], .int .i64 (memberE xs z)]) ∧ (memberE xs z = 0 → FromIs w'.heap.size w' fm (fromV xs xs.length) xs.length (capV xs.length)) ∧ Below w.heap.size w w'

theorem member_ok {xs : List Lot} {z : ByteArray} (h : memberE xs z = 0) : (openLotsV xs).2 = 0 ∧ nameB z = true ∧ goneB (fromV xs xs.length) z = false := by
  unfold memberE at h
  obtain ⟨h1, h2⟩ := firstV_zero.1 h
  obtain ⟨h3, h4⟩ := firstV_zero.1 h2
  have h5 := (unless_ne (by decide)).1 h3
  have h6 := (unless_ne (by decide)).1 (firstV_zero.1 h4).1
  exact ⟨h1, h5, by simpa using h6⟩

theorem FromIs.look_all {B k cap fm : Nat} {F : Fam} {w : World} (h : FromIs B w fm F k cap) {z : ByteArray} (hz : z.size ≤ 1000) :
    ∃ mv : Option Nat, (∀ W : World, W.heap[fm]? = w.heap[fm]? → (Instr.lookup 118 (.map (some fm)) (.string z) false).run Tryz.prog W = .ok (.map mv) W) ∧ mv.isNone = goneB F z ∧ fm < B ∧ ∀ {g t cs}, Blk w g t cs → fm ≠ g := by
  obtain ⟨D, h1, hfB, h2⟩ := h
  have hun : ∀ W : World, W.heap[fm]? = w.heap[fm]? → W.ownsMap Tryz.prog 9 mapElem fm k D := fun W hW => by
    obtain ⟨es, clock, h3, r⟩ := h1
    exact ⟨es, clock, hW.trans h3, r⟩
  have hne : ∀ {g t cs}, Blk w g t cs → fm ≠ g := fun {g t cs} hb e => by
    obtain ⟨es, clock, h3, r⟩ := h1
    unfold Blk at hb
    rw [← e, h3] at hb
    cases hb
  cases hFz : F z with
  | none =>
    refine ⟨none, fun W hW => ?_, by unfold goneB; rw [hFz]; rfl, hfB, hne⟩
    obtain ⟨v, ps, hrun, hv⟩ := (hun W hW).lookup (z := .map none) (zd := .nil) (zp := []) strKeyed Tryz.underlying118 (zero_map W) rfl (WideMaps.keyOf_string_mk Tryz.underlying9 (s := z) (by unfold maxLen; omega))
    have := (h2 z).1 hFz .nil
    unfold klit at this
    rw [this] at hv
    rw [hrun, mapElem_nil hv]
  | some own =>
    obtain ⟨b, g1, _⟩ := (h2 z).2 own hFz
    refine ⟨some b, fun W hW => ?_, by unfold goneB; rw [hFz]; rfl, hfB, hne⟩
    obtain ⟨v, ps, hrun, hv⟩ := (hun W hW).lookup (z := .map none) (zd := .nil) (zp := []) strKeyed Tryz.underlying118 (zero_map W) rfl (WideMaps.keyOf_string_mk Tryz.underlying9 (s := z) (by unfold maxLen; omega))
    have := g1 .nil
    unfold klit at this
    rw [this] at hv
    rw [hrun, mapElem_some hv]

set_option maxHeartbeats 4000000 in
set_option maxRecDepth 100000 in
theorem member_any (B : Nat) (xs : List Lot) (z : ByteArray) (A : Option Addr) (c : Nat) (w : World) (hr : LotsIn B w A xs) (hB : B ≤ w.heap.size) (hs : SmallLots xs) (hz : z.size ≤ 1000) :
    Calls Tryz.prog 74 #[.slice A xs.length c, .string z] w (MemberPost xs z A c w) := by
  have HO := Lib.hid (openLots_any2 B xs A c (w.alloc (.cells #[.slice none 0 0, .map none] 120)) (hr.below ((pa pr).mono hB)) (Nat.le_trans hB (by simp)) hs)
  have hnil := fun (W : World) (r : Option Nat) => run_neq_map_nil (P := Tryz.prog) W 125 9 4 r Tryz.underlying125
  have HMb := Lib.hid (fun h F => memberE_bad (xs := xs) (z := z) h F)
  have HMo := Lib.hid (show memberE xs z = firstV [(openLotsV xs).2, unlessV (nameB z) 4, unlessV (!goneB (fromV xs xs.length) z) 6] from rfl)
  have HMk := Lib.hid (member_ok (xs := xs) (z := z))
  clear hr hs
  unfold LotsPost2 at HO
  unfold MemberPost
  generalize memberE xs z = ME at *
  generalize (openLotsV xs).1 = I at *
  generalize (openLotsV xs).2 = E at *
  go_enter Tryz.func74, Tryz.ntmps74
  go_wp2_with (go_at_call 67; go_must (refine HO.out.mono ?_); rintro e w0 ⟨fm, F, k, cap, rfl, hF, hFE, hb1⟩; have HF := Lib.hid hF; have HFE := Lib.hid hFE; have HB1 := Lib.hid hb1; have k0 : Blk w0 w.heap.size 120 #[.slice none 0 0, .map none] := (Blk.newAt rfl).past hb1; have K0 := Lib.hid k0; have hz1 := hb1.size; simp only [World.size_alloc] at hz1; clear hF hFE hb1 k0)
  have hF0 : FromIs w0.heap.size (w0.alloc (.cells #[.slice A xs.length c, .map (some fm)] 120)) fm F k cap := HF.out.below (pa pr)
  obtain ⟨mv, hlook, hmv, hfm, hfne⟩ := hF0.look_all hz
  have HMv := Lib.hid hmv
  have HME := Lib.hid (show firstV [E, unlessV (nameB z) 4, unlessV mv.isSome 6] = ME by
    rw [show mv.isSome = (!goneB F z) by rw [← HMv.out]; cases mv <;> rfl]
    by_cases h : E = 0
    · rw [(HFE.out h).1]; exact HMo.out.symm
    · exact (HMb.out h F).symm)
  have HL := Lib.hid hlook
  have hW0 : ∃ W0 : World, W0 = w0.alloc (.cells #[.slice A xs.length c, .map (some fm)] 120) := ⟨_, rfl⟩
  obtain ⟨W0, hW0⟩ := hW0
  have q0 : Blk W0 w0.heap.size 120 #[.slice A xs.length c, .map (some fm)] := by rw [hW0]; exact Blk.new _ _ _
  have p0 : Blk W0 w.heap.size 120 #[.slice none 0 0, .map none] := by rw [hW0]; exact K0.out.alloc
  have hfW : fm < W0.heap.size := by rw [hW0]; simp; omega
  have hne : w.heap.size ≠ w0.heap.size := by omega
  have HS := Lib.hid (show ∀ W, Hid (Below W0.heap.size W0 W ∨ ∃ X v0 v1 o, Below W0.heap.size W0 X ∧ W = ((X.setCell ⟨w.heap.size, 0, none⟩ v0).setCell ⟨w.heap.size, 1, none⟩ v1).alloc o) → Hid (Below W0.heap.size W0 W ∨ ∃ X v0 v1 o, Below W0.heap.size W0 X ∧ W = ((X.setCell ⟨w.heap.size, 0, none⟩ v0).setCell ⟨w.heap.size, 1, none⟩ v1).alloc o) ∧ W.cell? ⟨w0.heap.size, 0, none⟩ = some (.slice A xs.length c) ∧ W.cell? ⟨w0.heap.size, 1, none⟩ = some (.map (some fm)) ∧ (Instr.lookup 118 (.map (some fm)) (.string z) false).run Tryz.prog W = .ok (.map mv) W from fun W hD => by
    refine ⟨hD, ?_⟩
    rcases hD.out with hW | ⟨X, v0, v1, o, hX, rfl⟩
    · exact ⟨(q0.past hW).cellAt 0 rfl, (q0.past hW).cellAt 1 rfl, HL.out W (by rw [← hW0]; exact hW.block fm (by omega))⟩
    · have qX := ((q0.past hX).far (p := ⟨w.heap.size, 0, none⟩) (u := v0) (by dsimp only; omega)).far (p := ⟨w.heap.size, 1, none⟩) (u := v1) (by dsimp only; omega) |>.alloc (o := o)
      have hfg : fm ≠ w.heap.size := hfne K0.out.alloc
      refine ⟨qX.cellAt 0 rfl, qX.cellAt 1 rfl, HL.out _ ?_⟩
      have hsX := hX.size
      rw [Below.heap_alloc _ _ _ (by simp; omega), Below.heap_setCell _ _ _ _ (by dsimp only; exact hfg), Below.heap_setCell _ _ _ _ (by dsimp only; exact hfg), ← hW0]
      exact hX.block fm (by omega))
  have HP0 := Lib.hid p0
  have HFW := Lib.hid (show FromIs W0.heap.size W0 fm F k cap by rw [hW0]; exact hF0.more (by simp))
  have HW0 := Lib.hid hW0
  rw [← hW0]
  clear hF0 hmv hlook hW0 q0 HL p0 hne hfne hfW hfm
  go_region_held3 (fun w' => Hid (Below W0.heap.size W0 w' ∨ ∃ X v0 v1 o, Below W0.heap.size W0 X ∧ w' = ((X.setCell ⟨w.heap.size, 0, none⟩ v0).setCell ⟨w.heap.size, 1, none⟩ v1).alloc o) ∧ w'.cell? ⟨w0.heap.size, 0, none⟩ = some (.slice A xs.length c) ∧ w'.cell? ⟨w0.heap.size, 1, none⟩ = some (.map (some fm)) ∧ (Instr.lookup 118 (.map (some fm)) (.string z) false).run Tryz.prog w' = .ok (.map mv) w') ((refine HS.out _ (Lib.hid ?_); first | (refine Or.inr ⟨_, _, _, _, ?_, (by with_reducible rfl)⟩; repeat (first | assumption | (with_reducible exact pr) | (with_reducible refine pd ?_) | (with_reducible refine pa ?_) | (with_reducible refine pt ?_ (by assumption)))) | (refine Or.inl ?_; repeat (first | assumption | (with_reducible exact pr) | (with_reducible refine pd ?_) | (with_reducible refine pa ?_) | (with_reducible refine pt ?_ (by assumption))))))
    ((first
      | (go_at_call 104; (with_reducible refine (isName_any _ _ hz).mono ?_); rintro e w2 ⟨rfl, hb2⟩; have q2 := HP0.out.past (pt (pd pr) hb2); have e0 : w2.cell? ⟨w.heap.size, 0, none⟩ = some (.slice none 0 0) := q2.cellAt 0 rfl; have e1 : w2.cell? ⟨w.heap.size, 1, none⟩ = some (.map none) := q2.cellAt 1 rfl; have f0 := q2.frozen 0; have f1 := q2.frozen 1; have x0 := q2.lt; have HB2 := Lib.hid (pt (pd pr) hb2))
      | (go_at_call 47; (with_reducible refine (unless_any _ _ _).mono ?_); rintro e w2 ⟨rfl, rfl⟩)
      | (go_at_call 45; go_must (refine (first3' _ _ _ _ _ _ (by first | (go_simp; done) | (go_simp; rfl)) (by first | (go_simp; done) | (go_simp; rfl)) (by first | (go_simp; done) | (go_simp; rfl)) _ HME.out).mono ?_); rintro e w' ⟨rfl, rfl⟩)))
  all_goals
    go_wp2
    refine bodyPost_ret (v := .tuple #[.agg #[.slice A xs.length c, .map (some fm)], .int .i64 ME]) (by simp [results, Tryz.results74, go_sem, e0, e1, x0]) rfl ?_
    have hq2 : Below w.heap.size w w2 := pt (pt (pa pr) HB1.out) (pt (by rw [HW0.out]; exact pa pr) HB2.out)
    refine ⟨fm, rfl, fun hME => ?_, pa (ps (ps hq2 (Nat.le_refl _)) (Nat.le_refl _))⟩
    obtain ⟨hE, _, _⟩ := HMk.out hME
    obtain ⟨rfl, rfl, rfl⟩ := HFE.out hE
    have r2 := HP0.out.past HB2.out
    have hF2 := ((HFW.out.below HB2.out).cell r2 (p := ⟨w.heap.size, 0, none⟩) rfl (.slice A xs.length c)).cell (r2.set_ 0 (.slice A xs.length c)) (p := ⟨w.heap.size, 1, none⟩) rfl (.map (some fm))
    have hs2 := HB2.out.size
    exact (hF2.below ((pa pr).mono (by simp; omega))).more (by simp; omega)

end Go.Proofs.YtbojmcopagbheaaGreatDoor
end

section
namespace Go.Proofs.YtbojmcopagbheaaGreatDoor
open Go.RowKit


set_option maxHeartbeats 2000000 in
set_option maxRecDepth 100000 in
theorem refLotErr_any (B : Nat) (x : Lot) (A : Option Addr) (n c : Nat) (w : World) (hn : x.made.length = n) (hr : RowIn Value.string B w A x.made) (hB : B ≤ w.heap.size) (hs : SmallLot x) (hcap : n ≤ c) :
    Calls Tryz.prog 36 #[.agg #[.string x.name, .slice A n c, .int .i64 x.mlo, .int .i64 x.mhi, .int .i64 x.llo, .int .i64 x.lhi]] w fun e w' => e = .returned (.int .i64 (lotE x)) ∧ Below w.heap.size w w' := by
  obtain ⟨nm, xs, mlo, mhi, llo, lhi⟩ := x
  obtain ⟨hs1, hs2, hs3⟩ := hs
  dsimp only at *
  have HT := Lib.hid (show lotE ⟨nm, xs, mlo, mhi, llo, lhi⟩ = if lotE1 ⟨nm, xs, mlo, mhi, llo, lhi⟩ ≠ 0 then lotE1 ⟨nm, xs, mlo, mhi, llo, lhi⟩ else if (scan (madeErr xs) xs.length 0).2 ≠ 0 then (scan (madeErr xs) xs.length 0).2 else lotE3 ⟨nm, xs, mlo, mhi, llo, lhi⟩ from rfl)
  have HV1 := Lib.hid (show lotE1 ⟨nm, xs, mlo, mhi, llo, lhi⟩ = firstV [unlessV (nameB nm) 4, unlessV (decide ((n : Int) ≤ 6)) 8] by rw [← hn]; rfl)
  have HV3 := Lib.hid (show lotE3 ⟨nm, xs, mlo, mhi, llo, lhi⟩ = if rangeErrV valueB mlo mhi = 0 then rangeErrV valueB llo lhi else rangeErrV valueB mlo mhi by
    show firstV [rangeErrV valueB mlo mhi, rangeErrV valueB llo lhi] = _
    simp only [firstV]
    split
    · split <;> simp_all
    · rfl)
  have HN := Lib.hid hn
  have HR := Lib.hid hr
  have HS3 := Lib.hid hs3
  have hn2 : n ≤ 1000 := by omega
  clear hn hr hs3
  generalize lotE ⟨nm, xs, mlo, mhi, llo, lhi⟩ = E at *
  generalize lotE1 ⟨nm, xs, mlo, mhi, llo, lhi⟩ = E1 at *
  generalize lotE3 ⟨nm, xs, mlo, mhi, llo, lhi⟩ = E3 at *
  cases hnm : nameB nm with
  | false =>
    have HE := Lib.hid (show E = 4 by rw [HT.out, HV1.out, hnm]; rfl)
    have HNm := Lib.hid (show ∀ W, Calls Tryz.prog 82 #[.string nm] W fun e w' => e = .returned (.bool false) ∧ W = w' from fun W => hnm ▸ baseIsName_any nm W hs1)
    clear HT HV1 HV3 hnm
    go_enter Tryz.func36, Tryz.ntmps36
    go_wp2_with (go_at_call 82; go_must (refine (HNm.out _).mono ?_); rintro e w' ⟨rfl, rfl⟩)
    go_ret
    exact ⟨ret_int HE.out.symm, pa pr⟩
  | true =>
    have HNm := Lib.hid (show ∀ W, Calls Tryz.prog 82 #[.string nm] W fun e w' => e = .returned (.bool true) ∧ W = w' from fun W => hnm ▸ baseIsName_any nm W hs1)
    by_cases h6 : (6 : Int) < (n : Int)
    · have HE := Lib.hid (show E = 8 by rw [HT.out, HV1.out, hnm, decide_eq_false (show ¬ (n : Int) ≤ 6 by omega)]; rfl)
      have h6n : 6 < n := by omega
      clear HT HV1 HV3 hnm
      go_enter Tryz.func36, Tryz.ntmps36
      go_wp2_with (go_at_call 82; go_must (refine (HNm.out _).mono ?_); rintro e w' ⟨rfl, rfl⟩)
      go_ret
      exact ⟨ret_int HE.out.symm, pa pr⟩
    · have HTE := Lib.hid (show E = if (scan (madeErr xs) xs.length 0).2 ≠ 0 then (scan (madeErr xs) xs.length 0).2 else E3 by rw [HT.out, HV1.out, hnm, decide_eq_true (show (n : Int) ≤ 6 by omega)]; rfl)
      have h6n : ¬ 6 < n := by omega
      have h6d : decide ((6 : Int) < (n : Int)) = false := decide_eq_false h6
      clear HT HV1 hnm
      go_enter Tryz.func36, Tryz.ntmps36
      go_wp2_with (go_at_call 82; go_must (refine (HNm.out _).mono ?_); rintro e w' ⟨rfl, rfl⟩)
      clear h6n h6d h6
      have r0 : Blk (w.alloc (.cells #[.string nm, .slice A n c, .int .i64 mlo, .int .i64 mhi, .int .i64 llo, .int .i64 lhi] 58)) w.heap.size 58 #[.string nm, .slice A n c, .int .i64 mlo, .int .i64 mhi, .int .i64 llo, .int .i64 lhi] := Blk.newAt rfl
      go_loopw [3] (fun i wr => ∃ k : Nat, k ≤ n ∧ i = .int .i64 (k : Int) ∧ scan (madeErr xs) xs.length 0 = scan (madeErr xs) xs.length k ∧ Blk wr w.heap.size 58 #[.string nm, .slice A n c, .int .i64 mlo, .int .i64 mhi, .int .i64 llo, .int .i64 lhi] ∧ Below w.heap.size w wr) (fun i _ => n - (intOf i).toNat)
      case atStart => exact ⟨0, Nat.zero_le _, rfl, rfl, r0, pa pr⟩
      case round =>
        obtain ⟨k, hk, rfl, hf, q0, hq⟩ := hrel
        clear r0
        have c1 := q0.cellAt 1 rfl
        have z0 := q0.lt
        by_cases hlt : k < n
        · obtain ⟨b, off, hA, hbB, hcell⟩ := (HR.out.below (hq.mono hB)).at_ (k := k) (by rw [HN.out]; exact hlt)
          subst hA
          have hbw := Nat.lt_of_lt_of_le hbB (Nat.le_trans hB hq.size)
          have d0 := hcell k (by rw [HN.out]; exact hlt)
          have HF := Lib.hid (hf.trans (scan_step (by rw [HN.out]; exact hlt)))
          have HE := Lib.hid (show madeErr xs k = firstV [unlessV (nameB (xs.getD k default)) 4, unlessV (!anyG (sameS (xs.getD k default)) (xs.take k)) 23] from rfl)
          have hsz := HS3.out k
          have HR1 := Lib.hid ((HR.out.below (hq.mono hB)))
          have HTk := Lib.hid (show (xs.take k).length = k by have := HN.out; simp; omega)
          have i0 : (0 : Int) ≤ (k : Int) := by omega
          have i1 : (k : Int) ≤ (c : Int) := by omega
          have i2 : (k : Int) < (n : Int) := by omega
          have hk1000 : k ≤ 1000 := by omega
          have HQ0 := Lib.hid q0
          have HNx := Lib.hid fun W => baseIsName_any (xs.getD k default) W hsz
          have HTx := Lib.hid fun (nq : Nat) (W : World) (hW : W = wr.drewN nq) => baseHasText_any B (some ⟨b, off, none⟩) k c (xs.take k) (xs.getD k default) W (hW ▸ (HR1.out.below (below_drewN' (Below.refl _ _) nq)).take k) HTk.out (by omega)
          clear hcell hf q0
          generalize hy : xs.getD k default = y at *
          have HZ := Lib.hid (show madeErr xs k = 0 → scan (madeErr xs) xs.length 0 = scan (madeErr xs) xs.length (k + 1) from fun hz => by rw [HF.out, if_pos hz])
          have HG := Lib.hid (show madeErr xs k ≠ 0 → E = madeErr xs k from fun hz => by
            have e : scan (madeErr xs) xs.length 0 = (k, madeErr xs k) := by rw [HF.out, if_neg hz]
            rw [HTE.out, e, if_pos hz])
          clear HF hy
          cases hny : nameB y with
          | false =>
            have HR4 := Lib.hid (show E = 4 by
              have h4 : madeErr xs k = 4 := by rw [HE.out, hny]; rfl
              rw [HG.out (by rw [h4]; decide), h4])
            rw [hny] at HNx
            clear hny
            go_wp2_with (go_at_call 82; go_must (refine (HNx.out _).mono ?_); rintro e w' ⟨rfl, rfl⟩)
            go_ret
            exact ⟨ret_int HR4.out.symm, hq⟩
          | true =>
            rw [hny] at HNx
            cases hta : hasT (xs.take k) y with
            | true =>
              have HR4 := Lib.hid (show E = 23 by
                have h4 : madeErr xs k = 23 := by rw [HE.out, hny, show anyG (sameS y) (xs.take k) = true from hta]; rfl
                rw [HG.out (by rw [h4]; decide), h4])
              rw [hta] at HTx
              clear hny hta
              go_wp2_with (go_at_call 82; go_must (refine (HNx.out _).mono ?_); rintro e w' ⟨rfl, rfl⟩)
              go_quiet ((go_at_call 31; exact Calls.quiet_of_same ((HTx.out _ _ rfl).mono fun e w' h => ⟨h.1, h.2.symm⟩)))
              have hb1 : Below wr.heap.size wr (wr.drewN nq) := below_drewN' (Below.refl _ _) nq
              go_wp2
              go_ret
              exact ⟨ret_int HR4.out.symm, pt hq hb1⟩
            | false =>
              have HR4 := Lib.hid (show scan (madeErr xs) xs.length 0 = scan (madeErr xs) xs.length (k + 1) from HZ.out (by rw [HE.out, hny, show anyG (sameS y) (xs.take k) = false from hta]; rfl))
              rw [hta] at HTx
              clear hny hta
              go_wp2_with (go_at_call 82; go_must (refine (HNx.out _).mono ?_); rintro e w' ⟨rfl, rfl⟩)
              go_quiet ((go_at_call 31; exact Calls.quiet_of_same ((HTx.out _ _ rfl).mono fun e w' h => ⟨h.1, h.2.symm⟩)))
              have hb1 : Below wr.heap.size wr (wr.drewN nq) := below_drewN' (Below.refl _ _) nq
              go_wp2
              go_roundw
              case rel => exact ⟨k + 1, by omega, by go_num, HR4.out, HQ0.out.past hb1, pt hq hb1⟩
              case measure => simp [intOf]; omega
        · have HF := Lib.hid (show E = if rangeErrV valueB mlo mhi = 0 then rangeErrV valueB llo lhi else rangeErrV valueB mlo mhi by
            have e : scan (madeErr xs) xs.length 0 = (0, 0) := by rw [hf]; exact scan_end (by have := HN.out; omega)
            rw [HTE.out, e, if_neg (by simp), HV3.out])
          have c2 := q0.cellAt 2 rfl
          have c3 := q0.cellAt 3 rfl
          have c4 := q0.cellAt 4 rfl
          have c5 := q0.cellAt 5 rfl
          have HQ0 := Lib.hid q0
          have HR1 := Lib.hid fun W => refRange_any mlo mhi W
          have HR2 := Lib.hid fun W => refRange_any llo lhi W
          clear hf q0 HV3 HTE
          generalize rangeErrV valueB mlo mhi = R1 at *
          generalize rangeErrV valueB llo lhi = R2 at *
          by_cases hz : R1 = 0
          · subst hz
            go_wp2_with (first
              | (go_at_call 83; (with_reducible refine (HR1.out _).mono ?_); rintro e w1 ⟨rfl, hb1⟩; have q1 := HQ0.out.past hb1; have e4 : w1.cell? ⟨w.heap.size, 4, none⟩ = some (.int .i64 llo) := q1.cellAt 4 rfl; have e5 : w1.cell? ⟨w.heap.size, 5, none⟩ = some (.int .i64 lhi) := q1.cellAt 5 rfl; have z1 := q1.lt; clear q1)
              | (go_at_call 83; go_must (refine (HR2.out _).mono ?_); rintro e w2 ⟨rfl, hb2⟩))
            go_ret
            exact ⟨ret_int (by rw [HF.out]; rfl), pt (pt hq hb1) hb2⟩
          · have hne : (R1 != 0) = true := by simpa using hz
            have HF1 := Lib.hid (show E = R1 by rw [HF.out, if_neg hz])
            clear HF hz
            go_wp2_with (go_at_call 83; go_must (refine (HR1.out _).mono ?_); rintro e w1 ⟨rfl, hb1⟩)
            go_ret
            exact ⟨ret_int HF1.out.symm, pt hq hb1⟩

end Go.Proofs.YtbojmcopagbheaaGreatDoor
end

section
namespace Go.Proofs.YtbojmcopagbheaaGreatDoor
open Go.RowKit

theorem find_gone {xs : List Lot} {i : Nat} (hi : i ≤ xs.length) (z : ByteArray) : (goneB (fromV xs i) z = true → findG (hasName z) (xs.take i) 0 = -1) ∧ (goneB (fromV xs i) z = false → ∃ m : Nat, findG (hasName z) (xs.take i) 0 = (m : Int)) := by
  have h1 := findG_any (hasName z) (xs.take i)
  rw [gone_take xs i hi z]
  cases ha : anyG (hasName z) (xs.take i) with
  | true =>
    rw [ha] at h1
    have h2 := of_decide_eq_true h1
    exact ⟨fun h => by simp at h, fun _ => ⟨(findG (hasName z) (xs.take i) 0).toNat, by omega⟩⟩
  | false =>
    refine ⟨fun _ => ?_, fun h => by simp at h⟩
    unfold findG
    rw [List.drop_zero]
    have h2 : (xs.take i).findIdx? (hasName z) = none := by
      rw [List.findIdx?_eq_none_iff]
      unfold anyG at ha
      rw [List.any_eq_false] at ha
      intro x hx
      simpa using ha x hx
    rw [h2]
theorem LotsIn.take {B : Nat} {w : World} {A : Option Addr} {xs : List Lot} (h : LotsIn B w A xs) (k : Nat) : LotsIn B w A (xs.take k) := by
  rcases h with h | ⟨b, off, hA, hb, hc⟩
  · exact .inl (by rw [h]; simp)
  · refine .inr ⟨b, off, hA, hb, fun j hj => ?_⟩
    simp only [List.length_take] at hj
    have e : (xs.take k).getD j default = xs.getD j default := by simp [List.getD, show j < k by omega]
    rw [e]
    exact hc j (by omega)

set_option maxHeartbeats 4000000 in
set_option maxRecDepth 100000 in
theorem refCheckLots_any (B : Nat) (xs : List Lot) (A : Option Addr) (c : Nat) (w : World) (hr : LotsIn B w A xs) (hB : B ≤ w.heap.size) (hs : SmallLots xs) (hcap : xs.length ≤ c) :
    Calls Tryz.prog 63 #[.slice A xs.length c] w fun e w' => e = .returned (.tuple #[.int .i64 ((openLotsV xs).1 : Int), .int .i64 (openLotsV xs).2]) ∧ Below w.heap.size w w' := by
  obtain ⟨hs1, hs2⟩ := hs
  have HS2 := Lib.hid hs2
  have HR := Lib.hid hr
  clear hs2 hr
  by_cases hlen : 20 < xs.length
  · have HV := Lib.hid (show openLotsV xs = (0, 8) by unfold openLotsV; rw [if_pos hlen])
    have hlen' : (20 : Int) < (xs.length : Int) := by omega
    go_enter Tryz.func63, Tryz.ntmps63
    go_wp2
    go_ret2
    exact ⟨ret_ii (by rw [HV.out]; rfl) (by rw [HV.out]), pr⟩
  · have HV := Lib.hid (show openLotsV xs = scan (lotsE1 xs) xs.length 0 by unfold openLotsV; rw [if_neg hlen])
    have hle : xs.length ≤ 20 := by omega
    have hlen' : decide ((20 : Int) < (xs.length : Int)) = false := by simp; omega
    generalize openLotsV xs = V at *
    go_enter Tryz.func63, Tryz.ntmps63
    go_wp2
    clear hlen hlen'
    go_loopw [4] (fun ix wr => ∃ i : Nat, ix = .int .i64 (i : Int) ∧ i ≤ xs.length ∧ V = scan (lotsE1 xs) xs.length i ∧ Below w.heap.size w wr) (fun ix _ => xs.length - (intOf ix).toNat)
    case atStart => exact ⟨0, rfl, Nat.zero_le _, HV.out, pr⟩
    case round =>
      obtain ⟨i, rfl, hi, hf, hq⟩ := hrel
      by_cases hlt : i < xs.length
      · obtain ⟨b, off, hA, hbB, hct⟩ := (HR.out.below (hq.mono hB)).at_ hlt
        subst hA
        obtain ⟨t0, A3, c3, t1, tr, tc, t2, t3, t4, t5⟩ := hct i hlt
        have hBr : B ≤ wr.heap.size := Nat.le_trans hB hq.size
        have hbw : b < wr.heap.size := Nat.lt_of_lt_of_le hbB hBr
        have n0 : (0 : Int) ≤ (i : Int) := by omega
        have n1 : (i : Int) < (xs.length : Int) := by omega
        have n2 : (i : Int) ≤ (c : Int) := by omega
        have hsm := HS2.out i hlt
        have HF := Lib.hid (hf.trans (scan_step hlt))
        have HE := Lib.hid (show lotsE1 xs i = firstV [lotE (xs.getD i default), unlessV (goneB (fromV xs i) (xs.getD i default).name) 5, unlessV (!anyG (goneB (fromV xs i)) (xs.getD i default).made) 6] from rfl)
        have HG := Lib.hid (fun z => find_gone (xs := xs) (i := i) (by omega) z)
        have HTk := Lib.hid (show (xs.take i).length = i by simp; omega)
        have hm1 : i ≤ 1000 := by omega
        clear hct hf
        generalize xs.getD i default = x at *
        generalize fromV xs i = F at *
        have HSm := Lib.hid hsm
        have HTr := Lib.hid tr
        have HHR := Lib.hid (HR.out.below (hq.mono hB))
        have hmlen := hsm.2.1
        clear tr hsm
        have HLe := Lib.hid (refLotErr_any B x A3 x.made.length c3 wr rfl HTr.out hBr HSm.out tc)
        by_cases hz : lotE x = 0
        · rw [hz] at HLe HE
          have HE2 := Lib.hid (show lotsE1 xs i = firstV [unlessV (goneB F x.name) 5, unlessV (!anyG (goneB F) x.made) 6] by rw [HE.out]; rfl)
          clear HE hz
          cases hgn : goneB F x.name with
          | false =>
            obtain ⟨m, hm⟩ := (HG.out x.name).2 hgn
            have HO := Lib.hid (show lotsE1 xs i = 5 by rw [HE2.out, hgn]; rfl)
            have HV5 := Lib.hid (show V = (i, 5) by rw [HF.out, HO.out, if_neg (by decide)])
            have HFd := Lib.hid fun (W : World) (hW : Below wr.heap.size wr W) => refFind_any B (xs.take i) (some ⟨b, off, none⟩) i c x.name W ((HHR.out.below (hW.mono hBr)).take i) HTk.out hm1
            rw [hm] at HFd
            have m0 : (0 : Int) ≤ (m : Int) := by omega
            clear hm hgn
            go_wp2_with (go_at_call 36; go_must (refine HLe.out.mono ?_); rintro e w1 ⟨rfl, hb1⟩; have s0 : w1.cell? ⟨b, off + i * 6, none⟩ = some (.string x.name) := ((bcell (hb1.mono hBr)).1 _ _ hbB).trans t0; clear t0 t1 t2 t3 t4 t5)
            go_quiet ((go_at_call 102; exact Calls.quiet_of_same ((HFd.out _ (below_drewN' hb1 _)).mono fun e w' h => ⟨h.1, h.2.symm⟩)))
            have hb2 : Below wr.heap.size wr (w1.drewN nq) := below_drewN' hb1 nq
            go_wp2
            go_ret2
            exact ⟨ret_ii (by rw [HV5.out]) (by rw [HV5.out]), pt hq hb2⟩
          | true =>
            have hm := (HG.out x.name).1 hgn
            have HE3 := Lib.hid (show lotsE1 xs i = unlessV (!anyG (goneB F) x.made) 6 by rw [HE2.out, hgn]; simp only [firstV, unlessV]; cases anyG (goneB F) x.made <;> simp)
            have HFd := Lib.hid fun (W : World) (hW : Below wr.heap.size wr W) => refFind_any B (xs.take i) (some ⟨b, off, none⟩) i c x.name W ((HHR.out.below (hW.mono hBr)).take i) HTk.out hm1
            have HFm := Lib.hid fun (k : Nat) (W : World) (hW : Below wr.heap.size wr W) => refFind_any B (xs.take i) (some ⟨b, off, none⟩) i c (x.made.getD k default) W ((HHR.out.below (hW.mono hBr)).take i) HTk.out hm1
            rw [hm] at HFd
            clear hm hgn HE2
            go_wp2_with (go_at_call 36; go_must (refine HLe.out.mono ?_); rintro e w1 ⟨rfl, hb1⟩; have s0 : w1.cell? ⟨b, off + i * 6, none⟩ = some (.string x.name) := ((bcell (hb1.mono hBr)).1 _ _ hbB).trans t0; have s1 : w1.cell? ⟨b, off + i * 6 + 1, none⟩ = some (.slice A3 x.made.length c3) := ((bcell (hb1.mono hBr)).1 _ _ hbB).trans t1; clear t0 t1 t2 t3 t4 t5)
            go_quiet ((go_at_call 102; exact Calls.quiet_of_same ((HFd.out _ (below_drewN' hb1 _)).mono fun e w' h => ⟨h.1, h.2.symm⟩)))
            have hb2 : Below wr.heap.size wr (w1.drewN nq) := below_drewN' hb1 nq
            have hs1' : (w1.drewN nq).cell? ⟨b, off + i * 6 + 1, none⟩ = some (.slice A3 x.made.length c3) := s1
            have HS1 := Lib.hid hs1'
            clear s0 s1 hs1'
            go_wp2
            obtain ⟨wo, rfl⟩ : ∃ wo : World, wo = wr := ⟨_, rfl⟩
            generalize hw2 : w1.drewN nq = w2 at *
            clear hw2
            go_loopw [6] (fun jx wr2 => ∃ j : Nat, jx = .int .i64 (j : Int) ∧ j ≤ x.made.length ∧ anyG (goneB F) x.made = anyG (goneB F) (x.made.drop j) ∧ Below wo.heap.size wo wr2) (fun jx _ => x.made.length - (intOf jx).toNat)
            case atStart => exact ⟨0, rfl, Nat.zero_le _, rfl, hb2⟩
            case round =>
              obtain ⟨j, rfl, hj, hfj, hbj⟩ := hrel
              have s1 : wr.cell? ⟨b, off + i * 6 + 1, none⟩ = some (.slice A3 x.made.length c3) := by
                have h2 := (bcell (hb2.mono hBr)).1 b (off + i * 6 + 1) hbB
                have h3 := (bcell (hbj.mono hBr)).1 b (off + i * 6 + 1) hbB
                exact h3.trans (h2.symm.trans HS1.out)
              have hbw2 : b < wr.heap.size := Nat.lt_of_lt_of_le hbw hbj.size
              by_cases hlt2 : j < x.made.length
              · obtain ⟨b4, off4, hA4, hb4, hc4⟩ := (HTr.out.below (hbj.mono hBr)).at_ hlt2
                subst hA4
                have s2 := hc4 j hlt2
                have j0 : (0 : Int) ≤ (j : Int) := by omega
                have j1 : (j : Int) < (x.made.length : Int) := by omega
                have hb4w : b4 < wr.heap.size := by have := hbj.size; omega
                have HJ := Lib.hid (hfj.trans (anyG_step (goneB F) x.made j default hlt2))
                have hfm := fun W hW => HFm.out j W hW
                have hgg := HG.out (x.made.getD j default)
                clear hc4 hfj
                generalize x.made.getD j default = y at *
                cases hgy : goneB F y with
                | true =>
                  have hm := hgg.1 hgy
                  have HO := Lib.hid (show lotsE1 xs i = 6 by rw [HE3.out, HJ.out, hgy]; rfl)
                  have HV5 := Lib.hid (show V = (i, 6) by rw [HF.out, HO.out, if_neg (by decide)])
                  rw [hm] at hfm
                  have HFy := Lib.hid hfm
                  clear hm hgy hfm hgg
                  go_wp2
                  go_quiet ((go_at_call 102; exact Calls.quiet_of_same ((HFy.out _ (below_drewN' hbj _)).mono fun e w' h => ⟨h.1, h.2.symm⟩)))
                  have hb3 : Below wo.heap.size wo (wr.drewN nq) := below_drewN' hbj nq
                  go_wp2
                  go_ret2
                  exact ⟨ret_ii (by rw [HV5.out]) (by rw [HV5.out]), pt hq hb3⟩
                | false =>
                  obtain ⟨m, hm⟩ := hgg.2 hgy
                  have HJ2 := Lib.hid (show anyG (goneB F) x.made = anyG (goneB F) (x.made.drop (j + 1)) by rw [HJ.out, hgy]; simp)
                  rw [hm] at hfm
                  have HFy := Lib.hid hfm
                  have m0 : decide ((m : Int) < 0) = false := decide_eq_false (by omega)
                  clear hm hgy hfm hgg HJ
                  go_wp2
                  go_quiet ((go_at_call 102; exact Calls.quiet_of_same ((HFy.out _ (below_drewN' hbj _)).mono fun e w' h => ⟨h.1, h.2.symm⟩)))
                  have hb3 : Below wo.heap.size wo (wr.drewN nq) := below_drewN' hbj nq
                  go_wp2
                  go_roundw
                  case rel => exact ⟨j + 1, by go_num, by omega, HJ2.out, hb3⟩
                  case measure => simp [intOf]; omega
              · have HO := Lib.hid (show lotsE1 xs i = 0 by rw [HE3.out, hfj, List.drop_eq_nil_of_le (by omega)]; rfl)
                have HV5 := Lib.hid (show V = scan (lotsE1 xs) xs.length (i + 1) by rw [HF.out, HO.out, if_pos rfl])
                clear hfj
                go_wp2
                go_roundw
                case rel => exact ⟨i + 1, by go_num, by omega, HV5.out, pt hq hbj⟩
                case measure => simp [intOf]; omega
        · have hne : (lotE x != 0) = true := by simpa using hz
          have HO := Lib.hid (show lotsE1 xs i = lotE x by rw [HE.out]; show (if lotE x = 0 then _ else lotE x) = _; rw [if_neg hz])
          have HV5 := Lib.hid (show V = (i, lotE x) by rw [HF.out, HO.out, if_neg hz])
          clear HE HO hz
          generalize lotE x = E at *
          go_wp2_with (go_at_call 36; go_must (refine HLe.out.mono ?_); rintro e w1 ⟨rfl, hb1⟩)
          go_ret2
          exact ⟨ret_ii (by rw [HV5.out]) (by rw [HV5.out]), pt hq hb1⟩
      · have HV5 := Lib.hid (show V = (0, 0) by rw [hf]; exact scan_end (by omega))
        clear hf
        go_wp2
        go_ret2
        exact ⟨ret_ii (by rw [HV5.out]; rfl) (by rw [HV5.out]), hq⟩

end Go.Proofs.YtbojmcopagbheaaGreatDoor
end

section
namespace Go.Proofs.YtbojmcopagbheaaGreatDoor
open Go.RowKit

theorem bool_info : (Tryz.prog.info? 4).map (fun i => (i.zero, i.size, i.bytes)) = some (some (.bool false), 1, 1) := by kernel_rfl
theorem made_false (n : Nat) : madeCells #[Value.bool false] n = marksC n fun _ => false := by
  have h := toList_madeCells_one (.bool false) n
  have e : madeCells #[.bool false] n = (madeCells #[.bool false] n).toList.toArray := by simp
  rw [e, h]
  unfold marksC
  congr 1
  apply List.ext_getElem
  · simp
  · intro j h1 h2; simp

theorem next_case {xs : List Lot} {a i : Nat} {o : Nat → Bool} (h : Marks xs a i o) (hi : i ≤ a) {v : Value} (hv : v = .int .i64 ((i : Int) - 1) := by rfl) :
    (∃ p : Nat, v = .int .i64 (p : Int) ∧ p ≤ a ∧ Marks xs a (p + 1) o) ∨ (v = .int .i64 (-1) ∧ Marks xs a 0 o) := by
  subst hv
  rcases i with _ | p
  · exact .inr ⟨rfl, h⟩
  · exact .inl ⟨p, by rw [show ((p + 1 : Nat) : Int) - 1 = (p : Int) by omega], by omega, h⟩

def InRet (xs : List Lot) (a : Nat) (w : World) (e : Ending) (w' : World) : Prop :=
  ∃ g, e = .returned (.slice (some ⟨g, 0, none⟩) xs.length xs.length) ∧ Blk w' g 4 (marksC xs.length (ingD xs a)) ∧ w.heap.size ≤ g ∧ Below w.heap.size w w'

end Go.Proofs.YtbojmcopagbheaaGreatDoor
end

section
namespace Go.Proofs.YtbojmcopagbheaaGreatDoor
open Go.RowKit

/-- Strings in a slice. -/
def TextsRet (w : World) (ys : List ByteArray) (e : Ending) (w' : World) : Prop :=
  ∃ A c, e = .returned (.slice A ys.length c) ∧ RowIn Value.string w'.heap.size w' A ys ∧ ys.length ≤ c ∧ Below w.heap.size w w'

end Go.Proofs.YtbojmcopagbheaaGreatDoor
end

section
namespace Go.Proofs.YtbojmcopagbheaaGreatDoor
open Go.RowKit Go.Maps

def ingredientsV (xs : List Lot) (z : ByteArray) : List ByteArray := namesV (fun x => innerOf (fromV xs xs.length) z x.name) xs
def productsV (xs : List Lot) (z : ByteArray) : List ByteArray := namesV (fun x => innerOf (fromV xs xs.length) x.name z) xs

theorem prod1_any (fb nb fm B k cap : Nat) (F : Fam) (z : ByteArray) (x : Lot) (A : Option Addr) (n c : Nat) (w : World) (hB : B ≤ w.heap.size) (h1 : w.cell? ⟨fb, 1, none⟩ = some (.map (some fm))) (hfb : fb < B) (h2 : w.cell? ⟨nb, 0, none⟩ = some (.string z)) (hnb : nb < B) (hF : FromIs B w fm F k cap) (hz : z.size ≤ 1000) (hn : x.name.size ≤ 1000) (hin : goneB F x.name = false) :
    Calls Tryz.prog 75 #[.agg #[.string x.name, .slice A n c, .int .i64 x.mlo, .int .i64 x.mhi, .int .i64 x.llo, .int .i64 x.lhi], .pointer (some ⟨fb, 0, none⟩), .pointer (some ⟨nb, 0, none⟩)] w fun e w' => e = .returned (.bool (innerOf F x.name z)) ∧ Below w.heap.size w w' := by
  cases h : F x.name with
  | none => unfold goneB at hin; rw [h] at hin; cases hin
  | some own =>
    have hF1 : FromIs B (w.alloc (.cells #[.string x.name, .slice A n c, .int .i64 x.mlo, .int .i64 x.mhi, .int .i64 x.llo, .int .i64 x.lhi] 58)) fm F k cap := hF.below ((pa pr).mono hB)
    obtain ⟨ib, hl0, hs, _⟩ := hF1.look_some hn h
    have hl := hl0 _ (Below.refl _ _)
    have hl2 := hs.look hz
    have HR := Lib.hid (show innerOf F x.name z = own z by unfold innerOf; rw [h]; rfl)
    have hfw : fb < w.heap.size := by omega
    have hnw : nb < w.heap.size := by omega
    clear hF h hl0 hF1 hs hin
    go_enter Tryz.func75, Tryz.ntmps75
    go_wp2
    go_ret
    exact ⟨ret_bool HR.out.symm, pa pr⟩

/-- Strings in a slice, and no error. -/
def TextsRet0 (w : World) (ys : List ByteArray) (e : Ending) (w' : World) : Prop :=
  ∃ A c, e = .returned (.tuple #[.slice A ys.length c, .int .i64 0]) ∧ RowIn Value.string w'.heap.size w' A ys ∧ ys.length ≤ c ∧ Below w.heap.size w w'

set_option maxHeartbeats 2000000 in
set_option maxRecDepth 100000 in
theorem products_err (B : Nat) (xs : List Lot) (z : ByteArray) (A : Option Addr) (c : Nat) (w : World) (hr : LotsIn B w A xs) (hB : B ≤ w.heap.size) (hs : SmallLots xs) (hz : z.size ≤ 1000) (he : memberE xs z ≠ 0) :
    Calls Tryz.prog 29 #[.slice A xs.length c, .string z] w fun e w' => e = .returned (.tuple #[.slice none 0 0, .int .i64 (memberE xs z)]) ∧ Below w.heap.size w w' := by
  have HO := Lib.hid (member_any B xs z A c (w.alloc (.cells #[.string z] 9)) (hr.below ((pa pr).mono hB)) (Nat.le_trans hB (by simp)) hs hz)
  have hne : (memberE xs z != 0) = true := by simpa using he
  clear hr hs he
  unfold MemberPost at HO
  generalize memberE xs z = E at *
  go_enter Tryz.func29, Tryz.ntmps29
  go_wp2_with (go_at_call 74; go_must (refine HO.out.mono ?_); rintro e w1 ⟨fm, rfl, _, hb1⟩)
  go_ret2
  exact ⟨rfl, pa (pt (pa pr) hb1)⟩

set_option maxHeartbeats 2000000 in
set_option maxRecDepth 100000 in
theorem products_ok (B : Nat) (xs : List Lot) (z : ByteArray) (A : Option Addr) (c : Nat) (w : World) (hr : LotsIn B w A xs) (hB : B ≤ w.heap.size) (hs : SmallLots xs) (hz : z.size ≤ 1000) (he : memberE xs z = 0) :
    Calls Tryz.prog 29 #[.slice A xs.length c, .string z] w (TextsRet0 w (productsV xs z)) := by
  have ho := member_any B xs z A c (w.alloc (.cells #[.string z] 9)) (hr.below ((pa pr).mono hB)) (Nat.le_trans hB (by simp)) hs hz
  unfold MemberPost at ho
  rw [he] at ho
  have HO := Lib.hid ho
  have HSm := Lib.hid hs
  have HR := Lib.hid hr
  have HV := Lib.hid (show productsV xs z = namesV (fun x => innerOf (fromV xs xs.length) x.name z) xs from rfl)
  have hm := hs.1
  clear hr hs he ho
  go_enter Tryz.func29, Tryz.ntmps29
  go_wp2_with (first
    | (go_at_call 74; go_must (refine HO.out.mono ?_); rintro e w1 ⟨fm, rfl, hF, hb1⟩; have HF := Lib.hid (hF rfl); have HB1 := Lib.hid hb1; have n0 : w1.cell? ⟨w.heap.size, 0, none⟩ = some (.string z) := ((Blk.newAt (t := 9) (cs := #[.string z]) (w := w) rfl).past hb1).cellAt 0 rfl; have nx : w.heap.size < w1.heap.size := ((Blk.newAt (t := 9) (cs := #[.string z]) (w := w) rfl).past hb1).lt; have N0 := Lib.hid n0; clear hF hb1; have hW := names_to w.heap.size xs A c fm (fun x => innerOf (fromV xs xs.length) x.name z) (.pointer (some ⟨w1.heap.size, 0, none⟩)) (.pointer (some ⟨w.heap.size, 0, none⟩)) (w1.alloc (.cells #[.slice A xs.length c, .map (some fm)] 120)) ((HR.out.more hB).below (pa (pt (pa pr) HB1.out))) (pa (pt (pa pr) HB1.out)).size hm (fun i hi W hW A1 c1 => prod1_any w1.heap.size w.heap.size fm (w1.heap.size + 1) xs.length (capV xs.length) _ z _ A1 _ c1 W (by have := hW.size; simpa using this) (((Blk.new w1 120 #[.slice A xs.length c, .map (some fm)]).past hW).cellAt 1 rfl) (by omega) (((bcell (Below.mono hW (show w1.heap.size + 1 ≤ _ by simp))).1 w.heap.size 0 (by omega)).trans (((bcell ((pa pr) : Below w1.heap.size w1 (w1.alloc (.cells #[.slice A xs.length c, .map (some fm)] 120)))).1 w.heap.size 0 nx).trans N0.out)) (by omega) (((HF.out.below (pa pr)).more (by omega)).below (hW.mono (by simp))) hz (HSm.out.2 i hi).1 (fromV_some xs xs.length i hi)); have HW := Lib.hid hW; clear hW)
    | (go_at_call 68; go_must (refine HW.out.mono ?_); rintro e w3 ⟨A3, c3, rfl, hrow3, hc3, hb3⟩))
  go_ret2
  exact ⟨A3, c3, rfl, hrow3, hc3, pt (pa (pt (pa pr) HB1.out)) hb3⟩

end Go.Proofs.YtbojmcopagbheaaGreatDoor
end

section
namespace Go.Proofs.YtbojmcopagbheaaGreatDoor
open Go.RowKit Go.Maps

def NamesPost2 (p : Lot → Bool) (xs : List Lot) (w : World) (e : Ending) (w' : World) : Prop :=
  ∃ A c, e = .returned (.slice A (namesV p xs).length c) ∧ TextRow w' A (namesV p xs) ∧ (namesV p xs).length ≤ c ∧ Below w.heap.size w w'

set_option maxHeartbeats 1000000 in
set_option maxRecDepth 100000 in
theorem names2_to (B : Nat) (xs : List Lot) (A : Option Addr) (c fm : Nat) (p : Lot → Bool) (q1 q2 : Value) (w : World) (hr : LotsIn B w A xs) (hB : B ≤ w.heap.size) (hm : xs.length ≤ 1000)
    (hcb : ∀ i, i < xs.length → ∀ W, Below w.heap.size w W → ∀ A1 c1, Calls Tryz.prog 75 #[.agg #[.string (xs.getD i default).name, .slice A1 (xs.getD i default).made.length c1, .int .i64 (xs.getD i default).mlo, .int .i64 (xs.getD i default).mhi, .int .i64 (xs.getD i default).llo, .int .i64 (xs.getD i default).lhi], q1, q2] W fun e W' => e = .returned (.bool (p (xs.getD i default))) ∧ Below W.heap.size W W') :
    Calls Tryz.prog 68 #[.agg #[.slice A xs.length c, .map (some fm)], .func (.func 75) #[] #[q1, q2]] w (NamesPost2 p xs w) := by
  obtain ⟨i0, hi0, hz0, hz1, hz2⟩ := info_parts string_info
  have HR := Lib.hid hr
  have HCB := Lib.hid hcb
  clear hr hcb
  go_enter Tryz.func68, Tryz.ntmps68
  go_wp2
  go_loopw [5, 11] (fun ov ix wr => ∃ (i : Nat) (A' : Option Addr) (c' : Nat), ov = .slice A' (namesV p (xs.take i)).length c' ∧ ix = .int .i64 (i : Int) ∧ i ≤ xs.length ∧ wr.ownsRow w.heap.size 9 1 (.slice A' (namesV p (xs.take i)).length c') (namesV p (xs.take i)).length ((namesV p (xs.take i)).map Value.string) ∧ Below w.heap.size w wr) (fun _ ix _ => xs.length - (intOf ix).toNat)
  case atStart => exact ⟨0, none, 0, rfl, rfl, Nat.zero_le _, ⟨by simp [namesV], .inl ⟨by simp [namesV], by simp [namesV]⟩⟩, pa pr⟩
  case round =>
    obtain ⟨i, A', c', rfl, rfl, hi, hown, hq⟩ := hrel
    by_cases hlt : i < xs.length
    · obtain ⟨b, off, hA, hbB, hct⟩ := (HR.out.below (hq.mono hB)).at_ hlt
      subst hA
      obtain ⟨t0, A3, c3, t1, _, _, t2, t3, t4, t5⟩ := hct i hlt
      have hbw := Nat.lt_of_lt_of_le hbB (Nat.le_trans hB hq.size)
      have n0 : (0 : Int) ≤ (i : Int) := by omega
      have n1 : (i : Int) < (xs.length : Int) := by omega
      have hcall := HCB.out i hlt (wr.alloc (.cells #[.string (xs.getD i default).name, .slice A3 (xs.getD i default).made.length c3, .int .i64 (xs.getD i default).mlo, .int .i64 (xs.getD i default).mhi, .int .i64 (xs.getD i default).llo, .int .i64 (xs.getD i default).lhi] 58)) (pa hq) A3 c3
      have hstep := namesV_succ p xs i hlt
      have hlen := namesV_len p xs i
      have hlen' : (namesV p (xs.take i)).length ≤ 1000 := by omega
      generalize namesV p (xs.take i) = ys at *
      generalize xs.getD i default = x at *
      have HOwn := Lib.hid hown
      clear hown hct
      cases hp : p x with
      | false =>
        rw [hp] at hcall hstep
        have HCall := Lib.hid hcall
        have HStep := Lib.hid (show namesV p (xs.take (i + 1)) = ys by rw [hstep]; simp)
        clear hcall hstep hp
        go_wp2_with (go_at_call 75; go_must (refine HCall.out.mono ?_); rintro e w1 ⟨rfl, hb1⟩)
        go_roundw
        case rel => exact ⟨i + 1, A', c', by rw [HStep.out], by go_num, by omega, by rw [HStep.out]; exact ownsRow_past (pt (pa pr) hb1) HOwn.out, pt (pa hq) hb1⟩
        case measure => simp [intOf]; omega
      | true =>
        rw [hp] at hcall hstep
        have HCall := Lib.hid hcall
        have HStep := Lib.hid (show namesV p (xs.take (i + 1)) = ys ++ [x.name] by rw [hstep]; simp)
        clear hcall hstep hp
        have hq1 := Lib.hid (pa (o := .cells #[.string x.name, .slice A3 x.made.length c3, .int .i64 x.mlo, .int .i64 x.mhi, .int .i64 x.llo, .int .i64 x.lhi] 58) hq)
        go_wp2_with (first
          | (go_at_call 75; go_must (refine HCall.out.mono ?_); rintro e w1 ⟨rfl, hb1⟩; have bT := (Blk.new wr 58 #[.string x.name, .slice A3 x.made.length c3, .int .i64 x.mlo, .int .i64 x.mhi, .int .i64 x.llo, .int .i64 x.lhi]).past hb1; have b0 := bT.cellAt 0 rfl; have bx := bT.lt; have hq2 := pt hq1.out hb1; have hsz := hq2.size; have HO := Lib.hid ((ownsRow_past (pt (pa pr) hb1) HOwn.out).alloc (.cells #[.string x.name] 9)); have HC := Lib.hid (cellsIn_new w1 9 (.string x.name)))
          | (at_builtin; go_must (refine wpList_append_cells _ rfl (.tmp 18) (.tmp 21) _ rfl w.heap.size 9 i0 _ 1 16 Tryz.underlying56 hi0 hz0 hz1 hz2 rfl (by omega) _ ys.length _ rfl HO.out (w1.heap.size + 1) (some ⟨w1.heap.size, 0, none⟩) 1 1 _ rfl HC.out rfl (by simp [Value.oneCell']) (by simp only [maxLen]; omega) (by omega) (by simp; omega) ?_); intro v3 w3 hown3 hg3 hat3; obtain ⟨A3', c3', rfl, hc3', hm3⟩ := own_form hown3))
        have hb3 : Below w.heap.size w w3 := pg (pa hq2) HO.out (Nat.le_refl _) hg3
        have HOwn3 := Lib.hid hown3
        clear hown3 hg3 hat3 bT b0
        go_roundw
        case rel => exact ⟨i + 1, A3', c3', by rw [HStep.out]; simp, by go_num, by omega, by rw [HStep.out]; simpa using HOwn3.out, hb3⟩
        case measure => simp [intOf]; omega
    · have hie : i = xs.length := by omega
      subst hie
      rw [List.take_length] at hown ⊢
      have hrow := textRow_of_own hown
      obtain ⟨A2, c2, hv, hcap, _⟩ := own_form hown
      have HRow := Lib.hid hrow
      have HCap := Lib.hid (show (namesV p xs).length ≤ c' by injection hv with _ _ h; omega)
      clear hown hrow hv
      go_wp2
      go_ret
      exact ⟨A', c', rfl, HRow.out, HCap.out, hq⟩


def TextsRet2 (w : World) (ys : List ByteArray) (e : Ending) (w' : World) : Prop :=
  ∃ A c, e = .returned (.tuple #[.slice A ys.length c, .int .i64 0]) ∧ TextRow w' A ys ∧ ys.length ≤ c ∧ Below w.heap.size w w'

set_option maxHeartbeats 2000000 in
set_option maxRecDepth 100000 in
theorem products_ok2 (B : Nat) (xs : List Lot) (z : ByteArray) (A : Option Addr) (c : Nat) (w : World) (hr : LotsIn B w A xs) (hB : B ≤ w.heap.size) (hs : SmallLots xs) (hz : z.size ≤ 1000) (he : memberE xs z = 0) :
    Calls Tryz.prog 29 #[.slice A xs.length c, .string z] w (TextsRet2 w (productsV xs z)) := by
  have ho := member_any B xs z A c (w.alloc (.cells #[.string z] 9)) (hr.below ((pa pr).mono hB)) (Nat.le_trans hB (by simp)) hs hz
  unfold MemberPost at ho
  rw [he] at ho
  have HO := Lib.hid ho
  have HSm := Lib.hid hs
  have HR := Lib.hid hr
  have HV := Lib.hid (show productsV xs z = namesV (fun x => innerOf (fromV xs xs.length) x.name z) xs from rfl)
  have hm := hs.1
  clear hr hs he ho
  go_enter Tryz.func29, Tryz.ntmps29
  go_wp2_with (first
    | (go_at_call 74; go_must (refine HO.out.mono ?_); rintro e w1 ⟨fm, rfl, hF, hb1⟩; have HF := Lib.hid (hF rfl); have HB1 := Lib.hid hb1; have n0 : w1.cell? ⟨w.heap.size, 0, none⟩ = some (.string z) := ((Blk.newAt (t := 9) (cs := #[.string z]) (w := w) rfl).past hb1).cellAt 0 rfl; have nx : w.heap.size < w1.heap.size := ((Blk.newAt (t := 9) (cs := #[.string z]) (w := w) rfl).past hb1).lt; have N0 := Lib.hid n0; clear hF hb1; have hW := names2_to w.heap.size xs A c fm (fun x => innerOf (fromV xs xs.length) x.name z) (.pointer (some ⟨w1.heap.size, 0, none⟩)) (.pointer (some ⟨w.heap.size, 0, none⟩)) (w1.alloc (.cells #[.slice A xs.length c, .map (some fm)] 120)) ((HR.out.more hB).below (pa (pt (pa pr) HB1.out))) (pa (pt (pa pr) HB1.out)).size hm (fun i hi W hW A1 c1 => prod1_any w1.heap.size w.heap.size fm (w1.heap.size + 1) xs.length (capV xs.length) _ z _ A1 _ c1 W (by have := hW.size; simpa using this) (((Blk.new w1 120 #[.slice A xs.length c, .map (some fm)]).past hW).cellAt 1 rfl) (by omega) (((bcell (Below.mono hW (show w1.heap.size + 1 ≤ _ by simp))).1 w.heap.size 0 (by omega)).trans (((bcell ((pa pr) : Below w1.heap.size w1 (w1.alloc (.cells #[.slice A xs.length c, .map (some fm)] 120)))).1 w.heap.size 0 nx).trans N0.out)) (by omega) (((HF.out.below (pa pr)).more (by omega)).below (hW.mono (by simp))) hz (HSm.out.2 i hi).1 (fromV_some xs xs.length i hi)); have HW := Lib.hid hW; clear hW)
    | (go_at_call 68; go_must (refine HW.out.mono ?_); rintro e w3 ⟨A3, c3, rfl, hrow3, hc3, hb3⟩))
  go_ret2
  exact ⟨A3, c3, rfl, hrow3, hc3, pt (pa (pt (pa pr) HB1.out)) hb3⟩

end Go.Proofs.YtbojmcopagbheaaGreatDoor
end

section
namespace Go.Proofs.YtbojmcopagbheaaGreatDoor
open Go.RowKit

theorem LotsIn.past {w w' : World} {A : Option Addr} {xs : List Lot} (h : LotsIn w.heap.size w A xs) (hb : Below w.heap.size w w') : LotsIn w'.heap.size w' A xs := (h.below hb).more hb.size
theorem LotsIn.allocL {w : World} {A : Option Addr} {xs : List Lot} (h : LotsIn w.heap.size w A xs) {ob : Obj} : LotsIn (w.alloc ob).heap.size (w.alloc ob) A xs := h.past (pa pr)
theorem small_same {xs zs : List Lot} (h : SameFam xs zs) (hs : SmallLots xs) : SmallLots zs := by
  refine ⟨by rw [h.1]; exact hs.1, fun i hi => ?_⟩
  obtain ⟨a, b, c⟩ := hs.2 i (by rw [← h.1]; exact hi)
  have e1 : (zs.getD i default).name = (xs.getD i default).name := (h.2 i).1
  have e2 : (zs.getD i default).made = (xs.getD i default).made := (h.2 i).2
  unfold SmallLot
  rw [e1, e2]
  exact ⟨a, b, c⟩
/-- A row of lots of the call's own, as a block. -/
theorem own_lots_blk {w : World} {base n c : Nat} {A : Option Addr} {us : List Value} (h : w.ownsRow base 58 6 (.slice A n c) n us) (hn : 0 < n) :
    ∃ g cur, A = some ⟨g, 0, none⟩ ∧ base ≤ g ∧ Blk w g 58 cur ∧ us.length = n * 6 ∧ ∀ j, j < n * 6 → cur[j]? = us[j]? := by
  rcases h.2 with ⟨_, h2⟩ | ⟨g, cap, cur, hv, hb, hh, _, _, _, ht⟩
  · omega
  · injection hv with hA _ _
    refine ⟨g, cur, hA, hb, hh, h.1, fun j hj => ?_⟩
    rw [← ht, List.getElem?_take_of_lt hj]
    simp
/-- Four cells of one lot are turned. -/
theorem set4 {cur : Array Value} {m j : Nat} {v2 v3 v4 v5 : Value} (hm : m + 5 < cur.size) :
    ((((cur.setIfInBounds (m + 2) v2).setIfInBounds (m + 3) v3).setIfInBounds (m + 4) v4).setIfInBounds (m + 5) v5)[j]? =
      if j = m + 2 then some v2 else if j = m + 3 then some v3 else if j = m + 4 then some v4 else if j = m + 5 then some v5 else cur[j]? := by
  simp only [Array.getElem?_setIfInBounds, Array.size_setIfInBounds]
  by_cases h5 : j = m + 5
  · subst h5
    simp
    omega
  · by_cases h4 : j = m + 4
    · subst h4
      simp
      omega
    · by_cases h3 : j = m + 3
      · subst h3
        simp
        omega
      · by_cases h2 : j = m + 2
        · subst h2
          simp
          omega
        · rw [if_neg (fun e => h5 e.symm), if_neg (fun e => h4 e.symm), if_neg (fun e => h3 e.symm), if_neg (fun e => h2 e.symm), if_neg h2, if_neg h3, if_neg h4, if_neg h5]

theorem four_far {w : World} {g b m : Nat} {v2 v3 v4 v5 : Value} (h : b ≠ g) : ((((w.setCell ⟨g, m + 2, none⟩ v2).setCell ⟨g, m + 3, none⟩ v3).setCell ⟨g, m + 4, none⟩ v4).setCell ⟨g, m + 5, none⟩ v5).heap[b]? = w.heap[b]? :=
  (Below.heap_setCell _ _ _ _ h).trans ((Below.heap_setCell _ _ _ _ h).trans ((Below.heap_setCell _ _ _ _ h).trans (Below.heap_setCell _ _ _ _ h)))
/-- The lots with wide limits, one of them refused: in memory. -/
theorem mark_lots {w : World} {g k : Nat} {cur : Array Value} {us : List Value} {xs : List Lot} (hb : Blk w g 58 cur) (hrow : LotRow w us (xs.map wideL)) (hlen : us.length = xs.length * 6) (hcu : ∀ j, j < xs.length * 6 → cur[j]? = us[j]?) (hk : k < xs.length) :
    LotsIn ((((w.setCell ⟨g, k * 6 + 2, none⟩ (.int .i64 5)).setCell ⟨g, k * 6 + 3, none⟩ (.int .i64 6)).setCell ⟨g, k * 6 + 4, none⟩ (.int .i64 7)).setCell ⟨g, k * 6 + 5, none⟩ (.int .i64 8)).heap.size
      ((((w.setCell ⟨g, k * 6 + 2, none⟩ (.int .i64 5)).setCell ⟨g, k * 6 + 3, none⟩ (.int .i64 6)).setCell ⟨g, k * 6 + 4, none⟩ (.int .i64 7)).setCell ⟨g, k * 6 + 5, none⟩ (.int .i64 8)) (some ⟨g, 0, none⟩) (markL xs k) := by
  have hB := (((hb.set_ (k * 6 + 2) (.int .i64 5)).set_ (k * 6 + 3) (.int .i64 6)).set_ (k * 6 + 4) (.int .i64 7)).set_ (k * 6 + 5) (.int .i64 8)
  have hsz : k * 6 + 5 < cur.size := by
    have q := hcu (k * 6 + 5) (by omega)
    rw [List.getElem?_eq_getElem (by omega)] at q
    exact (Array.getElem?_eq_some_iff.1 q).1
  have hfar : ∀ (b : Nat) (ds : Array Value) (fz : Nat × Nat), w.heap[b]? = some (Obj.cells ds 9 fz) → ((((w.setCell ⟨g, k * 6 + 2, none⟩ (.int .i64 5)).setCell ⟨g, k * 6 + 3, none⟩ (.int .i64 6)).setCell ⟨g, k * 6 + 4, none⟩ (.int .i64 7)).setCell ⟨g, k * 6 + 5, none⟩ (.int .i64 8)).heap[b]? = w.heap[b]? := fun b ds fz hg => four_far fun e => by
    subst e
    have hb : w.heap[b]? = some (.cells cur 58 (0, 0)) := hb
    rw [hg] at hb
    injection hb with hb
    injection hb with _ ht
    exact absurd ht (by decide)
  generalize ((((w.setCell ⟨g, k * 6 + 2, none⟩ (.int .i64 5)).setCell ⟨g, k * 6 + 3, none⟩ (.int .i64 6)).setCell ⟨g, k * 6 + 4, none⟩ (.int .i64 7)).setCell ⟨g, k * 6 + 5, none⟩ (.int .i64 8)) = W at *
  refine .inr ⟨g, 0, rfl, hB.lt, fun i hi => ?_⟩
  have hi' : i < xs.length := by rw [← (mark_same xs k).1]; exact hi
  obtain ⟨A, c, q0, q1, q2, q3, q4, q5, q6, q7⟩ := hrow.2 i (by simpa using hi')
  rw [getD_map wideL xs i default default hi'] at q0 q1 q2 q3 q4 q5 q6 q7
  have hc : ∀ q, W.cell? ⟨g, 0 + i * 6 + q, none⟩ = if i * 6 + q = k * 6 + 2 then some (.int .i64 5) else if i * 6 + q = k * 6 + 3 then some (.int .i64 6) else if i * 6 + q = k * 6 + 4 then some (.int .i64 7) else if i * 6 + q = k * 6 + 5 then some (.int .i64 8) else cur[i * 6 + q]? := fun q => by rw [Nat.zero_add]; exact (hB.cell (i * 6 + q)).trans (set4 hsz)
  have hold : ∀ q, q < 6 → (i = k → q < 2) → W.cell? ⟨g, 0 + i * 6 + q, none⟩ = us[i * 6 + q]? := fun q h1 h2 => by
    rw [hc q, ← hcu (i * 6 + q) (by omega), if_neg, if_neg, if_neg, if_neg]
    all_goals
      intro e
      rcases Nat.lt_trichotomy i k with h | h | h
      · omega
      · have := h2 h; omega
      · omega
  rw [mark_at hi']
  by_cases h : k = i
  · subst h
    rw [if_pos rfl]
    refine ⟨(hold 0 (by omega) (by omega)).trans q0, A, c, (hold 1 (by omega) (by omega)).trans q1, (q2.same hfar).row, q3, ?_, ?_, ?_, ?_⟩
    · rw [hc 2, if_pos rfl]; rfl
    · rw [hc 3, if_neg (by omega), if_pos rfl]; rfl
    · rw [hc 4, if_neg (by omega), if_neg (by omega), if_pos rfl]; rfl
    · rw [hc 5, if_neg (by omega), if_neg (by omega), if_neg (by omega), if_pos rfl]; rfl
  · rw [if_neg h]
    have hne : i = k → False := fun e => h e.symm
    exact ⟨(hold 0 (by omega) (fun e => (hne e).elim)).trans q0, A, c, (hold 1 (by omega) (fun e => (hne e).elim)).trans q1, (q2.same hfar).row, q3, (hold 2 (by omega) (fun e => (hne e).elim)).trans q4, (hold 3 (by omega) (fun e => (hne e).elim)).trans q5, (hold 4 (by omega) (fun e => (hne e).elim)).trans q6, (hold 5 (by omega) (fun e => (hne e).elim)).trans q7⟩
theorem nameB_at {xs : List Lot} (h0 : (openLotsV xs).2 = 0) {i : Nat} (hi : i < xs.length) : nameB (nameAt xs i) = true := (lotE_made (firstV_zero.1 ((open_each h0).2 i hi)).1).2
theorem memberE_at {xs : List Lot} (h0 : (openLotsV xs).2 = 0) {i : Nat} (hi : i < xs.length) : memberE xs (nameAt xs i) = 0 := by
  unfold memberE
  rw [h0, nameB_at h0 hi, show goneB (fromV xs xs.length) (nameAt xs i) = false from fromV_some xs xs.length i hi]
  rfl
theorem nameB_size {s : ByteArray} (h : nameB s = true) : s.size ≤ 1000 := by
  unfold nameB at h
  rw [Bool.and_eq_true] at h
  have h2 := h.2
  simp only [withinB, Bool.and_eq_true, decide_eq_true_eq] at h2
  omega
theorem LotRow.past {w w' : World} {us : List Value} {xs : List Lot} (h : LotRow w us xs) (hb : Below w.heap.size w w') : LotRow w' us xs := h.same (TextRow.kept_below hb)
theorem hasT_mem {xs : List ByteArray} {z : ByteArray} : hasT xs z = true ↔ z ∈ xs := by
  unfold hasT anyG
  rw [List.any_eq_true]
  constructor
  · rintro ⟨y, hy, h⟩; rw [sameS_iff.1 h]; exact hy
  · intro h; exact ⟨z, h, sameS_self z⟩
/-- A row of strings in memory. -/
def StrRow (w : World) (A : Option Addr) (L : List ByteArray) : Prop := RowIn Value.string w.heap.size w A L
theorem StrRow.past {w w' : World} {A : Option Addr} {L : List ByteArray} (h : StrRow w A L) (hb : Below w.heap.size w w') : StrRow w' A L := RowIn.past h (Nat.le_refl _) hb
/-- What the calls answer for a list of lots. -/
theorem copyLots_of {L : List Lot} {n : Nat} (hn : L.length = n) (hs : SmallLots L) (W : World) (A : Option Addr) (c : Nat) (h : LotsIn W.heap.size W A L) :
    Calls Tryz.prog 28 #[.slice A n c] W fun e w' => ∃ A2 c2, e = .returned (.slice A2 n c2) ∧ LotsIn w'.heap.size w' A2 L ∧ Below W.heap.size W w' :=
  (copyLots_any W.heap.size L A n c W h hn (Nat.le_refl _) hs).mono fun e w' ⟨A2, c2, h1, h2, _, h4⟩ => ⟨A2, c2, by rw [h1, hn], h2, h4⟩
theorem susp_of {L : List Lot} {n : Nat} (hn : L.length = n) (hs : SmallLots L) (h0 : (openLotsV L).2 = 0) (W : World) (A : Option Addr) (c : Nat) (h : LotsIn W.heap.size W A L) :
    Calls Tryz.prog 27 #[.slice A n c] W fun e w' => ∃ A2 c2, e = .returned (.tuple #[.slice A2 (suspectsV L).length c2, .int .i64 0]) ∧ StrRow w' A2 (suspectsV L) ∧ Below W.heap.size W w' := by
  subst hn
  exact (suspectsIn_ok W.heap.size L A c W h (Nat.le_refl _) hs h0).mono fun e w' ⟨A2, c2, h1, h2, _, h4⟩ => ⟨A2, c2, h1, h2, h4⟩
theorem prod_of {L : List Lot} {n : Nat} {z : ByteArray} (hn : L.length = n) (hs : SmallLots L) (hz : z.size ≤ 1000) (he : memberE L z = 0) (W : World) (A : Option Addr) (c : Nat) (h : LotsIn W.heap.size W A L) :
    Calls Tryz.prog 29 #[.slice A n c, .string z] W fun e w' => ∃ A2 c2, e = .returned (.tuple #[.slice A2 (prodV L z).length c2, .int .i64 0]) ∧ StrRow w' A2 (prodV L z) ∧ Below W.heap.size W w' := by
  subst hn
  exact (products_ok2 W.heap.size L z A c W h (Nat.le_refl _) hs hz he).mono fun e w' ⟨A2, c2, h1, h2, _, h4⟩ => ⟨A2, c2, h1, h2.row, h4⟩

end Go.Proofs.YtbojmcopagbheaaGreatDoor
end
