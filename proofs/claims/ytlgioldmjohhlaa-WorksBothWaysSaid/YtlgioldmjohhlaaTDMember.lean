/- Contracts: a lot and its family, the ingredients and the products of a lot. Names of at most 1000 bytes. -/
import Derived.Test.YtlgioldmjohhlaaT4Law
import Derived.Laws.Cover3
import Derived.Deep.RegionHeld3
namespace Go.Proofs.Ytlgioldmjohhlaa
open Go.RowKit Go.Maps

def memberE (xs : List Lot) (z : ByteArray) : Int := firstV [(openLotsV xs).2, unlessV (nameB z) 4, unlessV (!goneB (fromV xs xs.length) z) 6]
theorem memberE_bad {xs : List Lot} {z : ByteArray} (h : (openLotsV xs).2 ≠ 0) (F : Fam) : memberE xs z = firstV [(openLotsV xs).2, unlessV (nameB z) 4, unlessV (!goneB F z) 6] := by
  unfold memberE
  simp [firstV, h]

/-- What is returned by the function that opens lots and looks for one. -/
def MemberPost (xs : List Lot) (z : ByteArray) (A : Option Addr) (c : Nat) (w : World) (e : Ending) (w' : World) : Prop :=
  ∃ fm, e = .returned (.tuple #[.agg #[.slice A xs.length c, .map (some fm)], .int .i64 (memberE xs z)]) ∧ (memberE xs z = 0 → FromIs w'.heap.size w' fm (fromV xs xs.length) xs.length (capV xs.length)) ∧ Below w.heap.size w w'

theorem member_ok {xs : List Lot} {z : ByteArray} (h : memberE xs z = 0) : (openLotsV xs).2 = 0 ∧ nameB z = true ∧ goneB (fromV xs xs.length) z = false := by
  unfold memberE at h
  obtain ⟨h1, h2⟩ := firstV_zero.1 h
  obtain ⟨h3, h4⟩ := firstV_zero.1 h2
  have h5 := (unless_ne (by decide)).1 h3
  have h6 := (unless_ne (by decide)).1 (firstV_zero.1 h4).1
  exact ⟨h1, h5, by simpa using h6⟩

theorem FromIs.look_all {B k cap fm : Nat} {F : Fam} {w : World} (h : FromIs B w fm F k cap) {z : ByteArray} (hz : z.size ≤ 1000) :
    ∃ mv : Option Nat, (∀ W : World, W.heap[fm]? = w.heap[fm]? → (Instr.lookup 127 (.map (some fm)) (.string z) false).run Try.prog W = .ok (.map mv) W) ∧ mv.isNone = goneB F z ∧ fm < B ∧ ∀ {g t cs}, Blk w g t cs → fm ≠ g := by
  obtain ⟨D, h1, hfB, h2⟩ := h
  have hun : ∀ W : World, W.heap[fm]? = w.heap[fm]? → W.ownsMap Try.prog 9 mapElem fm k D := fun W hW => by
    obtain ⟨es, clock, h3, r⟩ := h1
    exact ⟨es, clock, hW.trans h3, r⟩
  have hne : ∀ {g t cs}, Blk w g t cs → fm ≠ g := fun {g t cs} hb e => by
    obtain ⟨es, clock, h3, r⟩ := h1
    unfold Blk at hb
    rw [← e, h3] at hb
    cases hb
  cases hFz : F z with
  | none =>
    refine ⟨none, fun W hW => ?_, by unfold goneB; rw [hFz]; rfl, hfB, hne⟩
    obtain ⟨v, ps, hrun, hv⟩ := (hun W hW).lookup (z := .map none) (zd := .nil) (zp := []) strKeyed Try.underlying127 (zero_map W) rfl (WideMaps.keyOf_string_mk Try.underlying9 (s := z) (by unfold maxLen; omega))
    have := (h2 z).1 hFz .nil
    unfold klit at this
    rw [this] at hv
    rw [hrun, mapElem_nil hv]
  | some own =>
    obtain ⟨b, g1, _⟩ := (h2 z).2 own hFz
    refine ⟨some b, fun W hW => ?_, by unfold goneB; rw [hFz]; rfl, hfB, hne⟩
    obtain ⟨v, ps, hrun, hv⟩ := (hun W hW).lookup (z := .map none) (zd := .nil) (zp := []) strKeyed Try.underlying127 (zero_map W) rfl (WideMaps.keyOf_string_mk Try.underlying9 (s := z) (by unfold maxLen; omega))
    have := g1 .nil
    unfold klit at this
    rw [this] at hv
    rw [hrun, mapElem_some hv]

set_option maxHeartbeats 4000000 in
set_option maxRecDepth 100000 in
theorem member_any (B : Nat) (xs : List Lot) (z : ByteArray) (A : Option Addr) (c : Nat) (w : World) (hr : LotsIn B w A xs) (hB : B ≤ w.heap.size) (hs : SmallLots xs) (hz : z.size ≤ 1000) :
    Calls Try.prog 112 #[.slice A xs.length c, .string z] w (MemberPost xs z A c w) := by
  have HO := Lib.hid (openLots_any2 B xs A c (w.alloc (.cells #[.slice none 0 0, .map none] 129)) (hr.below ((pa pr).mono hB)) (Nat.le_trans hB (by simp)) hs)
  have hnil := fun (W : World) (r : Option Nat) => run_neq_map_nil (P := Try.prog) W 134 9 4 r Try.underlying134
  have HMb := Lib.hid (fun h F => memberE_bad (xs := xs) (z := z) h F)
  have HMo := Lib.hid (show memberE xs z = firstV [(openLotsV xs).2, unlessV (nameB z) 4, unlessV (!goneB (fromV xs xs.length) z) 6] from rfl)
  have HMk := Lib.hid (member_ok (xs := xs) (z := z))
  clear hr hs
  unfold LotsPost2 at HO
  unfold MemberPost
  generalize memberE xs z = ME at *
  generalize (openLotsV xs).1 = I at *
  generalize (openLotsV xs).2 = E at *
  go_enter Try.func112, Try.ntmps112
  go_wp2_with (go_at_call 95; go_must (refine HO.out.mono ?_); rintro e w0 ⟨fm, F, k, cap, rfl, hF, hFE, hb1⟩; have HF := Lib.hid hF; have HFE := Lib.hid hFE; have HB1 := Lib.hid hb1; have k0 : Blk w0 w.heap.size 129 #[.slice none 0 0, .map none] := (Blk.newAt rfl).past hb1; have K0 := Lib.hid k0; have hz1 := hb1.size; simp only [World.size_alloc] at hz1; clear hF hFE hb1 k0)
  have hF0 : FromIs w0.heap.size (w0.alloc (.cells #[.slice A xs.length c, .map (some fm)] 129)) fm F k cap := HF.out.below (pa pr)
  obtain ⟨mv, hlook, hmv, hfm, hfne⟩ := hF0.look_all hz
  have HMv := Lib.hid hmv
  have HME := Lib.hid (show firstV [E, unlessV (nameB z) 4, unlessV mv.isSome 6] = ME by
    rw [show mv.isSome = (!goneB F z) by rw [← HMv.out]; cases mv <;> rfl]
    by_cases h : E = 0
    · rw [(HFE.out h).1]; exact HMo.out.symm
    · exact (HMb.out h F).symm)
  have HL := Lib.hid hlook
  have hW0 : ∃ W0 : World, W0 = w0.alloc (.cells #[.slice A xs.length c, .map (some fm)] 129) := ⟨_, rfl⟩
  obtain ⟨W0, hW0⟩ := hW0
  have q0 : Blk W0 w0.heap.size 129 #[.slice A xs.length c, .map (some fm)] := by rw [hW0]; exact Blk.new _ _ _
  have p0 : Blk W0 w.heap.size 129 #[.slice none 0 0, .map none] := by rw [hW0]; exact K0.out.alloc
  have hfW : fm < W0.heap.size := by rw [hW0]; simp; omega
  have hne : w.heap.size ≠ w0.heap.size := by omega
  have HS := Lib.hid (show ∀ W, Hid (Below W0.heap.size W0 W ∨ ∃ X v0 v1 o, Below W0.heap.size W0 X ∧ W = ((X.setCell ⟨w.heap.size, 0, none⟩ v0).setCell ⟨w.heap.size, 1, none⟩ v1).alloc o) → Hid (Below W0.heap.size W0 W ∨ ∃ X v0 v1 o, Below W0.heap.size W0 X ∧ W = ((X.setCell ⟨w.heap.size, 0, none⟩ v0).setCell ⟨w.heap.size, 1, none⟩ v1).alloc o) ∧ W.cell? ⟨w0.heap.size, 0, none⟩ = some (.slice A xs.length c) ∧ W.cell? ⟨w0.heap.size, 1, none⟩ = some (.map (some fm)) ∧ (Instr.lookup 127 (.map (some fm)) (.string z) false).run Try.prog W = .ok (.map mv) W from fun W hD => by
    refine ⟨hD, ?_⟩
    rcases hD.out with hW | ⟨X, v0, v1, o, hX, rfl⟩
    · exact ⟨(q0.past hW).cellAt 0 rfl, (q0.past hW).cellAt 1 rfl, HL.out W (by rw [← hW0]; exact hW.block fm (by omega))⟩
    · have qX := ((q0.past hX).far (p := ⟨w.heap.size, 0, none⟩) (u := v0) (by dsimp only; omega)).far (p := ⟨w.heap.size, 1, none⟩) (u := v1) (by dsimp only; omega) |>.alloc (o := o)
      have hfg : fm ≠ w.heap.size := hfne K0.out.alloc
      refine ⟨qX.cellAt 0 rfl, qX.cellAt 1 rfl, HL.out _ ?_⟩
      have hsX := hX.size
      rw [Below.heap_alloc _ _ _ (by simp; omega), Below.heap_setCell _ _ _ _ (by dsimp only; exact hfg), Below.heap_setCell _ _ _ _ (by dsimp only; exact hfg), ← hW0]
      exact hX.block fm (by omega))
  have HP0 := Lib.hid p0
  have HFW := Lib.hid (show FromIs W0.heap.size W0 fm F k cap by rw [hW0]; exact hF0.more (by simp))
  have HW0 := Lib.hid hW0
  rw [← hW0]
  clear hF0 hmv hlook hW0 q0 HL p0 hne hfne hfW hfm
  go_region_held3 (fun w' => Hid (Below W0.heap.size W0 w' ∨ ∃ X v0 v1 o, Below W0.heap.size W0 X ∧ w' = ((X.setCell ⟨w.heap.size, 0, none⟩ v0).setCell ⟨w.heap.size, 1, none⟩ v1).alloc o) ∧ w'.cell? ⟨w0.heap.size, 0, none⟩ = some (.slice A xs.length c) ∧ w'.cell? ⟨w0.heap.size, 1, none⟩ = some (.map (some fm)) ∧ (Instr.lookup 127 (.map (some fm)) (.string z) false).run Try.prog w' = .ok (.map mv) w') ((refine HS.out _ (Lib.hid ?_); first | (refine Or.inr ⟨_, _, _, _, ?_, (by with_reducible rfl)⟩; repeat (first | assumption | (with_reducible exact pr) | (with_reducible refine pd ?_) | (with_reducible refine pa ?_) | (with_reducible refine pt ?_ (by assumption)))) | (refine Or.inl ?_; repeat (first | assumption | (with_reducible exact pr) | (with_reducible refine pd ?_) | (with_reducible refine pa ?_) | (with_reducible refine pt ?_ (by assumption))))))
    ((first
      | (go_at_call 138; (with_reducible refine (isName_any _ _ hz).mono ?_); rintro e w2 ⟨rfl, hb2⟩; have q2 := HP0.out.past (pt (pd pr) hb2); have e0 : w2.cell? ⟨w.heap.size, 0, none⟩ = some (.slice none 0 0) := q2.cellAt 0 rfl; have e1 : w2.cell? ⟨w.heap.size, 1, none⟩ = some (.map none) := q2.cellAt 1 rfl; have f0 := q2.frozen 0; have f1 := q2.frozen 1; have x0 := q2.lt; have HB2 := Lib.hid (pt (pd pr) hb2))
      | (go_at_call 87; (with_reducible refine (unless_any _ _ _).mono ?_); rintro e w2 ⟨rfl, rfl⟩)
      | (go_at_call 86; go_must (refine (first3' _ _ _ _ _ _ (by first | (go_simp; done) | (go_simp; rfl)) (by first | (go_simp; done) | (go_simp; rfl)) (by first | (go_simp; done) | (go_simp; rfl)) _ HME.out).mono ?_); rintro e w' ⟨rfl, rfl⟩)))
  all_goals
    go_wp2
    refine bodyPost_ret (v := .tuple #[.agg #[.slice A xs.length c, .map (some fm)], .int .i64 ME]) (by simp [results, Try.results112, go_sem, e0, e1, x0]) rfl ?_
    have hq2 : Below w.heap.size w w2 := pt (pt (pa pr) HB1.out) (pt (by rw [HW0.out]; exact pa pr) HB2.out)
    refine ⟨fm, rfl, fun hME => ?_, pa (ps (ps hq2 (Nat.le_refl _)) (Nat.le_refl _))⟩
    obtain ⟨hE, _, _⟩ := HMk.out hME
    obtain ⟨rfl, rfl, rfl⟩ := HFE.out hE
    have r2 := HP0.out.past HB2.out
    have hF2 := ((HFW.out.below HB2.out).cell r2 (p := ⟨w.heap.size, 0, none⟩) rfl (.slice A xs.length c)).cell (r2.set_ 0 (.slice A xs.length c)) (p := ⟨w.heap.size, 1, none⟩) rfl (.map (some fm))
    have hs2 := HB2.out.size
    exact (hF2.below ((pa pr).mono (by simp; omega))).more (by simp; omega)

end Go.Proofs.Ytlgioldmjohhlaa
