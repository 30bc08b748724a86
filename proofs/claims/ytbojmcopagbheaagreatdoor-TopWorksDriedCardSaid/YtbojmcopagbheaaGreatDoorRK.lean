/- Contract: lots are checked: the families, the index of a lot, and the error.
Contracts: the suspect lots; the index and the error of lots; whether a lot is accepted, or its error. -/
import Derived.Test.YtbojmcopagbheaaGreatDoorZDSets

section
namespace Go.Proofs.YtbojmcopagbheaaGreatDoor
open Go.RowKit Go.Maps

def SmallLots (xs : List Lot) : Prop := xs.length ≤ 1000 ∧ ∀ i, i < xs.length → SmallLot (xs.getD i default)

def LotsPost (xs : List Lot) (A : Option Addr) (c : Nat) (w : World) (e : Ending) (w' : World) : Prop :=
  ∃ fm, e = .returned (.tuple #[.agg #[.slice A xs.length c, .map (some fm)], .int .i64 ((openLotsV xs).1 : Int), .int .i64 (openLotsV xs).2]) ∧
    ((openLotsV xs).2 = 0 → FromIs w'.heap.size w' fm (fromV xs xs.length) xs.length (capV xs.length)) ∧ Below w.heap.size w w'

/-- As LotsPost; the families of the lots before an error are known too. -/
def LotsPost2 (xs : List Lot) (A : Option Addr) (c : Nat) (w : World) (e : Ending) (w' : World) : Prop :=
  ∃ fm F k cap, e = .returned (.tuple #[.agg #[.slice A xs.length c, .map (some fm)], .int .i64 ((openLotsV xs).1 : Int), .int .i64 (openLotsV xs).2]) ∧
    FromIs w'.heap.size w' fm F k cap ∧ ((openLotsV xs).2 = 0 → F = fromV xs xs.length ∧ k = xs.length ∧ cap = capV xs.length) ∧ Below w.heap.size w w'

theorem ownsMap_cell {w : World} {k : TypeId} {R : Value → Option (DataW Unit × List MemPlace)} {b n g : Nat} {t : TypeId} {cs : Array Value} {D : DataW Unit} (h : w.ownsMap Tryz.prog k R b n D) (hb : Blk w g t cs) {p : Addr} (hp : p.block = g) (u : Value) : (w.setCell p u).ownsMap Tryz.prog k R b n D := by
  refine h.setCell (fun e => ?_) u
  obtain ⟨es, clock, h1, _⟩ := h
  unfold Blk at hb
  rw [e, hp, hb] at h1
  cases h1
theorem FromIs.cell {B fm k cap g : Nat} {F : Fam} {w : World} {t : TypeId} {cs : Array Value} (h : FromIs B w fm F k cap) (hb : Blk w g t cs) {p : Addr} (hp : p.block = g) (u : Value) : FromIs B (w.setCell p u) fm F k cap := by
  obtain ⟨D, h1, h2, h3⟩ := h
  refine ⟨D, ownsMap_cell h1 hb hp u, h2, fun z => ⟨(h3 z).1, fun own ho => ?_⟩⟩
  obtain ⟨b, g1, ⟨D2, g2, g3⟩, g4, g5⟩ := (h3 z).2 own ho
  exact ⟨b, g1, ⟨D2, ownsMap_cell g2 hb hp u, g3⟩, g4, g5⟩

/-- What holds of memory at the head of a round over the lots. -/
def FamRel (w : World) (xs : List Lot) (A : Option Addr) (c i : Nat) (wr : World) : Prop :=
  Blk wr w.heap.size 120 #[.slice none 0 0, .map none] ∧ Blk wr (w.heap.size + 1 + 1) 120 #[.slice A xs.length c, .map (some (w.heap.size + 1))] ∧
    FromIs wr.heap.size wr (w.heap.size + 1) (fromV xs i) i (capV i) ∧ Below w.heap.size w wr

/-- What holds of memory while the ingredients of a lot are gathered. -/
def OwnBase (B : Nat) (w : World) (n : Nat) (A : Option Addr) (c i : Nat) (x : Lot) (A3 : Option Addr) (c3 tb ob : Nat) (F : Fam) (W : World) : Prop :=
  Blk W w.heap.size 120 #[.slice none 0 0, .map none] ∧ Blk W (w.heap.size + 1 + 1) 120 #[.slice A n c, .map (some (w.heap.size + 1))] ∧
    Blk W tb 58 #[.string x.name, .slice A3 x.made.length c3, .int .i64 x.mlo, .int .i64 x.mhi, .int .i64 x.llo, .int .i64 x.lhi] ∧ FromIs ob W (w.heap.size + 1) F i (capV i) ∧ RowIn Value.string B W A3 x.made ∧ Below w.heap.size w W
theorem OwnBase.grown {B : Nat} {w : World} {n : Nat} {A : Option Addr} {c i : Nat} {x : Lot} {A3 : Option Addr} {c3 tb ob : Nat} {F : Fam} {W W' : World} {row : Option Nat} (h : OwnBase B w n A c i x A3 c3 tb ob F W) (hg : W.grownBy W' row)
    (hr : ∀ j, row = some j → ob ≤ j) (hob : w.heap.size + 1 + 1 < ob) (htb : tb < ob) (hB : B ≤ w.heap.size) : OwnBase B w n A c i x A3 c3 tb ob F W' := by
  obtain ⟨h1, h2, h3, h4, h5, h6⟩ := h
  have hne : ∀ b, b < ob → some b ≠ row := fun b hb e => by have := hr b e.symm; omega
  have h7 : Below w.heap.size w W' := h6.grown hg h6.size fun k hk => by have := hr k hk; omega
  have h8 : Below B W W' := ⟨hg.os, hg.tape, hg.output, hg.size, fun k hk => hg.block k (by have := h6.size; omega) (hne k (by omega))⟩
  exact ⟨h1.grown hg (hne _ (by omega)), h2.grown hg (hne _ (by omega)), h3.grown hg (hne _ htb), h4.grown hg hr, h5.below h8, h7⟩

theorem getD_in {α : Type} {l : List α} {j : Nat} {d : α} (h : j < l.length) : l.getD j d ∈ l := by
  have e : l.getD j d = l[j] := by simp [List.getD, h]
  rw [e]
  exact List.getElem_mem h

theorem lookAll_none {B fm k cap : Nat} {F : Fam} {w : World} {z : ByteArray} (h : FromIs B w fm F k cap) (hB : B ≤ w.heap.size) (hz : z.size ≤ 1000) (hF : F z = none) :
    ∀ W, Below w.heap.size w W → (Instr.lookup 118 (.map (some fm)) (.string z) false).run Tryz.prog W = .ok (.map none) W := fun _ hW => (h.past hB hW).look_none hz hF

set_option maxHeartbeats 4000000 in
set_option maxRecDepth 100000 in
theorem openLots_any2 (B : Nat) (xs : List Lot) (A : Option Addr) (c : Nat) (w : World) (hr : LotsIn B w A xs) (hB : B ≤ w.heap.size) (hs : SmallLots xs) :
    Calls Tryz.prog 67 #[.slice A xs.length c] w (LotsPost2 xs A c w) := by
  obtain ⟨hs1, hs2⟩ := hs
  have HS2 := Lib.hid hs2
  have HR := Lib.hid hr
  have hmm := @run_makeMap Tryz.prog
  have hnil := fun (W : World) (r : Option Nat) => run_eql_map_nil (P := Tryz.prog) W 125 9 4 r Tryz.underlying125
  clear hs2 hr
  by_cases hlen : 20 < xs.length
  · have HV := Lib.hid (show openLotsV xs = (0, 8) by unfold openLotsV; rw [if_pos hlen])
    go_enter Tryz.func67, Tryz.ntmps67
    go_wp2
    refine bodyPost_ret (v := .tuple #[.agg #[.slice A xs.length c, .map (some (w.heap.size + 1))], .int .i64 0, .int .i64 8]) (by simp [results, Tryz.results67, go_sem]) rfl ?_
    have hF0 := FromIs.made (cap := capV 0) (w.alloc (.cells #[.slice A xs.length c, .map (some (w.heap.size + 1))] 120))
    simp only [World.size_alloc] at hF0
    refine ⟨w.heap.size + 1, fun _ => none, 0, capV 0, by rw [HV.out]; rfl, ?_, (by rw [HV.out]; exact fun h => nomatch h), pa (pa (pa pr))⟩
    exact (hF0.below ((pa (Below.refl _ _)).mono (by simp))).more (by simp)
  · have HV := Lib.hid (show openLotsV xs = scan (lotsE1 xs) xs.length 0 by unfold openLotsV; rw [if_neg hlen])
    have hle : xs.length ≤ 20 := by omega
    clear hlen
    go_enter Tryz.func67, Tryz.ntmps67
    go_wp2
    go_loopw [23] (fun ix wr => ∃ i : Nat, ix = .int .i64 (i : Int) ∧ i ≤ xs.length ∧ scan (lotsE1 xs) xs.length 0 = scan (lotsE1 xs) xs.length i ∧ FamRel w xs A c i wr) (fun ix _ => xs.length - (intOf ix).toNat)
    case atStart =>
      refine ⟨0, rfl, Nat.zero_le _, rfl, ((Blk.newAt rfl).alloc).alloc, Blk.newAt (by simp), ?_, pa (pa (pa pr))⟩
      have h := FromIs.made (cap := capV 0) (w.alloc (.cells #[.slice none 0 0, .map none] 120))
      simp only [World.size_alloc] at h
      exact (h.below (pa (Below.refl _ _) |>.mono (by simp))).more (by simp)
    case round =>
      obtain ⟨i, rfl, hi, hf, q0, q2, qF, hq⟩ := hrel
      by_cases hlt : i < xs.length
      · obtain ⟨b, off, hA, hbB, hct⟩ := (HR.out.below (hq.mono hB)).at_ hlt
        subst hA
        obtain ⟨t0, A3, c3, t1, tr, tc, t2, t3, t4, t5⟩ := hct i hlt
        have hBr : B ≤ wr.heap.size := Nat.le_trans hB hq.size
        have hbw : b < wr.heap.size := Nat.lt_of_lt_of_le hbB hBr
        have n0 : (0 : Int) ≤ (i : Int) := by omega
        have n1 : (i : Int) < (xs.length : Int) := by omega
        have hsm := HS2.out i hlt
        have HF := Lib.hid (hf.trans (scan_step hlt))
        have HE := Lib.hid (show firstV [lotE (xs.getD i default), unlessV (goneB (fromV xs i) (xs.getD i default).name) 5, unlessV (!anyG (goneB (fromV xs i)) (xs.getD i default).made) 6] = lotsE1 xs i from rfl)
        have HFS := Lib.hid (show fromV xs (i + 1) = fun z => if sameS z (xs.getD i default).name then some (ownV (fromV xs i) (xs.getD i default).made) else fromV xs i z from rfl)
        clear hct hf
        generalize xs.getD i default = x at *
        generalize fromV xs i = F at *
        have hsm2 := hsm.2.2
        have hsm1 := hsm.1
        have hsm0 := hsm.2.1
        have HSm2 := Lib.hid hsm2
        have HSm := Lib.hid hsm
        have HTr := Lib.hid tr
        have HQF := Lib.hid qF
        have g1 : wr.cell? ⟨w.heap.size + 1 + 1, 1, none⟩ = some (.map (some (w.heap.size + 1))) := q2.cellAt 1 rfl
        have g0 : wr.cell? ⟨w.heap.size + 1 + 1, 0, none⟩ = some (.slice (some ⟨b, off, none⟩) xs.length c) := q2.cellAt 0 rfl
        have gx := q2.lt
        have gx6 : w.heap.size + 1 + 1 < wr.heap.size + 1 := by omega
        have hcf := containsFuncS_open B A3 x.made.length c3 x.made (goneB F) (.pointer (some ⟨w.heap.size + 1 + 1, 0, none⟩)) (wr.alloc (.cells #[.string x.name, .slice A3 x.made.length c3, .int .i64 x.mlo, .int .i64 x.mhi, .int .i64 x.llo, .int .i64 x.lhi] 58)) (tr.below ((pa pr).mono hBr)) rfl hsm0
          (fun j hj => openLots1_any (w.heap.size + 1 + 1) (w.heap.size + 1) wr.heap.size i (capV i) F _ _ ((q2.alloc).cellAt 1 rfl) (qF.below (pa pr)) (hsm2 j))
        have HCF := Lib.hid hcf
        clear hcf hsm2 hsm tr qF
        have hlook : ∃ mv : Option Nat, (∀ W, Below wr.heap.size wr W → (Instr.lookup 118 (.map (some (w.heap.size + 1))) (.string x.name) false).run Tryz.prog W = .ok (.map mv) W) ∧ mv.isNone = goneB F x.name := by
          cases hF : F x.name with
          | none => exact ⟨none, fun W hW => (HQF.out.below hW).look_none hsm1 hF, by unfold goneB; rw [hF]; rfl⟩
          | some own =>
            obtain ⟨ib, h1, _⟩ := HQF.out.look_some hsm1 hF
            exact ⟨some ib, h1, by unfold goneB; rw [hF]; rfl⟩
        obtain ⟨mv, hlook, hmv⟩ := hlook
        have hlook6 : ∀ W, Kept (wr.alloc (.cells #[.string x.name, .slice A3 x.made.length c3, .int .i64 x.mlo, .int .i64 x.mhi, .int .i64 x.llo, .int .i64 x.lhi] 58)) W → (Instr.lookup 118 (.map (some (w.heap.size + 1))) (.string x.name) false).run Tryz.prog W = .ok (.map mv) W := fun W hW => hlook W (pt (pa pr) hW)
        clear hlook
        go_wp2_with (go_at_call 72; go_must (refine HCF.out.mono ?_); rintro e w' ⟨rfl, rfl⟩)
        generalize hmiss : anyG (goneB F) x.made = miss at *
        have HMiss := Lib.hid hmiss
        clear hmiss
        refine region_below 12 follows_mixed (by kernel_rfl) ?_
        intro C hC
        simp only [List.take_succ_cons, List.take_zero, List.drop_succ_cons, List.drop_zero]
        repeat (first
          | ((with_reducible refine quiet_plain rfl (fun K hK => ?_)); (focus (apply quiet_val; (focus (intro w' hw; have hbq : Kept _ _ := (hC.out _).1 hw; obtain ⟨hcq, hfq⟩ := bcell ((hC.out _).1 hw); go_simp; (first | done | rfl | (with_reducible exact call_below hC hw (lotErr_any B x A3 x.made.length c3 _ rfl (HTr.out.below (((pt (pa pr) ((hC.out _).1 hw)).mono hBr))) (Nat.le_trans hBr (pt (pa pr) ((hC.out _).1 hw)).size) HSm.out tc)) | (with_reducible exact call_same hw (unless_any _ _ _))))); (simp only [Act.put, List.setIfInBounds_toArray, List.set_cons_succ, List.set_cons_zero]); (with_reducible refine hK _ ?_); clear hK K)))
          | ((with_reducible refine quiet_skip ?_ ?_); (focus (first | (simp [Region.wanted, yielded]; done) | (simp [Region.wanted, yielded, undef]; done))); simp only [Act.put, List.setIfInBounds_toArray, List.set_cons_succ, List.set_cons_zero])
          | ((with_reducible refine quiet_go ?_ (fun K hK => ?_)); (focus (first | (simp [Region.wanted, yielded]; done) | (simp [Region.wanted, yielded, undef]; done))); (focus (apply quiet_val; (focus (intro w' hw; have hbq : Kept _ _ := (hC.out _).1 hw; obtain ⟨hcq, hfq⟩ := bcell ((hC.out _).1 hw); go_simp; (first | done | rfl | (with_reducible exact call_below hC hw (lotErr_any B x A3 x.made.length c3 _ rfl (HTr.out.below (((pt (pa pr) ((hC.out _).1 hw)).mono hBr))) (Nat.le_trans hBr (pt (pa pr) ((hC.out _).1 hw)).size) HSm.out tc)) | (with_reducible exact call_same hw (unless_any _ _ _))))); (simp only [Act.put, List.setIfInBounds_toArray, List.set_cons_succ, List.set_cons_zero]); (with_reducible refine hK _ ?_); clear hK K))))
        refine wpQuiet_nil ?_
        intro w1 hb1
        replace hb1 := (hC.out _).1 hb1
        clear hC C
        obtain ⟨hc1, hf1⟩ := bcell hb1
        have hq1 : Below w.heap.size w w1 := pt (pa hq) hb1
        have k0 := (q0.alloc).past hb1
        have k2 := (q2.alloc).past hb1
        have kT : Blk w1 wr.heap.size 58 #[.string x.name, .slice A3 x.made.length c3, .int .i64 x.mlo, .int .i64 x.mhi, .int .i64 x.llo, .int .i64 x.lhi] := (Blk.new wr _ _).past hb1
        have hQF1 := HQF.out.below (pt (pa pr) hb1)
        have hTr1 := HTr.out.below ((pt (pa pr) hb1).mono hBr)
        have hz1 := hq1.size
        have e0 : w1.cell? ⟨w.heap.size, 0, none⟩ = some (.slice none 0 0) := k0.cellAt 0 rfl
        have e1 : w1.cell? ⟨w.heap.size, 1, none⟩ = some (.map none) := k0.cellAt 1 rfl
        have f0 := k0.frozen 0
        have f1 := k0.frozen 1
        have g0 : w1.cell? ⟨w.heap.size + 1 + 1, 0, none⟩ = some (.slice (some ⟨b, off, none⟩) xs.length c) := k2.cellAt 0 rfl
        have g1 : w1.cell? ⟨w.heap.size + 1 + 1, 1, none⟩ = some (.map (some (w.heap.size + 1))) := k2.cellAt 1 rfl
        have x0 := k0.lt
        have x2 := k2.lt
        have xT := kT.lt
        have t0 : w1.cell? ⟨wr.heap.size, 0, none⟩ = some (.string x.name) := kT.cellAt 0 rfl
        have t1 : w1.cell? ⟨wr.heap.size, 1, none⟩ = some (.slice A3 x.made.length c3) := kT.cellAt 1 rfl
        have HQF1 := Lib.hid hQF1
        have HTr1 := Lib.hid hTr1
        have HMv := Lib.hid hmv
        clear hc1 hf1 hlook6 gx gx6 hmv hQF1 hTr1 q0 q2 t2 t3 t4 t5
        by_cases hz : lotsE1 xs i = 0
        · have HZ := Lib.hid hz
          have HG := Lib.hid (show scan (lotsE1 xs) xs.length 0 = scan (lotsE1 xs) xs.length (i + 1) by rw [HF.out, if_pos hz])
          have hparts : lotE x = 0 ∧ goneB F x.name = true ∧ miss = false := by
            have h := HE.out
            rw [hz] at h
            obtain ⟨h1, h2⟩ := firstV_zero.1 h
            obtain ⟨h3, h4⟩ := firstV_zero.1 h2
            have h5 := (unless_ne (by decide)).1 h3
            have h6 := (unless_ne (by decide)).1 (firstV_zero.1 h4).1
            exact ⟨h1, h5, by simpa using h6⟩
          obtain ⟨hl0, hgone, hmi⟩ := hparts
          have hmade := (lotE_made hl0).1
          have hall : ∀ j, j < x.made.length → ∃ own, F (x.made.getD j default) = some own := fun j hj => by
            have h := HMiss.out
            rw [hmi] at h
            unfold anyG at h
            rw [List.any_eq_false] at h
            have h2 := h (x.made.getD j default) (getD_in hj)
            cases hF : F (x.made.getD j default) with
            | none => unfold goneB at h2; rw [hF] at h2; simp at h2
            | some own => exact ⟨own, rfl⟩
          have HAll := Lib.hid hall
          have HHE := Lib.hid (HE.out.trans hz)
          clear hz hl0 hgone hmi hall
          go_wp2_with (go_at_call 45; go_must (refine (first3' _ _ _ _ _ _ (by first | (go_simp; done) | (go_simp; rfl)) (by first | (go_simp; done) | (go_simp; rfl)) (by first | (go_simp; done) | (go_simp; rfl)) _ HHE.out).mono ?_); rintro e w' ⟨rfl, rfl⟩)
          have hbase : OwnBase B w xs.length (some ⟨b, off, none⟩) c i x A3 c3 wr.heap.size (w1.heap.size + 1) F ((w1.alloc (.cells #[.int .i64 (lotE x), .int .i64 (unlessV (goneB F x.name) 5), .int .i64 (unlessV (!miss) 6)] 37)).alloc (.map #[] 0)) :=
            ⟨k0.alloc.alloc, k2.alloc.alloc, kT.alloc.alloc, (HQF1.out.below (Below.mono (pa (pa pr)) (by omega))).more (by omega), HTr1.out.below (Below.mono (pa (pa pr)) (by omega)), pa (pa hq1)⟩
          have hset : SetIs ((w1.alloc (.cells #[.int .i64 (lotE x), .int .i64 (unlessV (goneB F x.name) 5), .int .i64 (unlessV (!miss) 6)] 37)).alloc (.map #[] 0)) (w1.heap.size + 1) (ownV F (x.made.take 0)) 0 := by
            have h := SetIs.made (w1.alloc (.cells #[.int .i64 (lotE x), .int .i64 (unlessV (goneB F x.name) 5), .int .i64 (unlessV (!miss) 6)] 37))
            simp only [World.size_alloc] at h
            exact h
          have HBase := Lib.hid hbase
          have HSet := Lib.hid hset
          clear hbase hset
          have hob : w.heap.size + 1 + 1 < w1.heap.size + 1 := by omega
          have htb : wr.heap.size < w1.heap.size + 1 := by omega
          have HSm0 := Lib.hid (show x.made.length ≤ 1000 by omega)
          clear e0 e1 f0 f1 g0 g1 x0 x2 xT t0 t1 k0 k2 kT hb1
          obtain ⟨wo, rfl⟩ : ∃ wo : World, wo = wr := ⟨_, rfl⟩
          go_loopw [55] (fun jx wr2 => ∃ j k : Nat, jx = .int .i64 (j : Int) ∧ j ≤ x.made.length ∧ OwnBase B w xs.length (some ⟨b, off, none⟩) c i x A3 c3 wo.heap.size (w1.heap.size + 1) F wr2 ∧ k ≤ j * (1 + capV i) ∧ SetIs wr2 (w1.heap.size + 1) (ownV F (x.made.take j)) k) (fun jx _ => x.made.length - (intOf jx).toNat)
          case atStart => exact ⟨0, 0, rfl, Nat.zero_le _, HBase.out, Nat.zero_le _, HSet.out⟩
          case round =>
            obtain ⟨j, k, rfl, hj, hbase, hk, hset⟩ := hrel
            have HB2 := Lib.hid hbase
            obtain ⟨p0, p2, pT, pF, pr2, pq⟩ := hbase
            have HSet2 := Lib.hid hset
            have hpq := pq.size
            clear hset
            by_cases hlt2 : j < x.made.length
            · obtain ⟨b4, off4, hA4, hb4, hc4⟩ := pr2.at_ hlt2
              subst hA4
              have hcell := hc4 j hlt2
              have hb4w : b4 < wr.heap.size := by omega
              obtain ⟨owny, howny⟩ := HAll.out j hlt2
              have hysz := HSm2.out j
              have hownS := ownV_succ F x.made j hlt2
              have hg1 : wr.cell? ⟨w.heap.size + 1 + 1, 1, none⟩ = some (.map (some (w.heap.size + 1))) := p2.cellAt 1 rfl
              have hg2 := p2.lt
              have hkk : k < 1000000000000000000 := roomy (i := i) (by omega) (by have := capV_six i; have := Nat.mul_le_mul_right (1 + capV i) (show j ≤ 6 by omega); omega)
              have HKk := Lib.hid hkk
              generalize x.made.getD j default = y at *
              have HInner := Lib.hid (show innerOf F y = owny by unfold innerOf; rw [howny]; rfl)
              have HOwny := Lib.hid howny
              have HOwnS := Lib.hid hownS
              clear hc4 hkk hownS howny p0 p2 pT pF pr2 pq
              have m0 : (0 : Int) ≤ (j : Int) := by omega
              have m1 : (j : Int) < (x.made.length : Int) := by omega
              go_wp2_with (first
                | (at_mapUpdate; go_must (refine wpList_set_add _ rfl (.tmp 59) (.tmp 60) _ rfl (w1.heap.size + 1) k _ rfl HSet2.out HKk.out y rfl rfl (by unfold maxLen; omega) ?_); intro w4 hset4 hg4; have HB4 := Lib.hid (HB2.out.grown hg4 (fun j hj => by injection hj with hj; omega) hob htb hB); have HSet4 := Lib.hid hset4; have q4 := HB4.out.2.1; have hg41 : w4.cell? ⟨w.heap.size + 1 + 1, 1, none⟩ = some (.map (some (w.heap.size + 1))) := q4.cellAt 1 rfl; have hg42 := q4.lt; obtain ⟨ib, hl4, hs4, hib, hibne⟩ := FromIs.look_some HB4.out.2.2.2.1 hysz HOwny.out; have hl5 := hl4 w4 (Below.refl _ _); obtain ⟨D4, hD4, hDv4⟩ := hs4; have HD4 := Lib.hid hD4; have HDv4 := Lib.hid hDv4; clear hset4 hg4 hl4 hD4 hDv4 q4 hg1 hg2)
                | (at_range; go_must (refine wpList_range_own _ rfl (.tmp 64) _ rfl 9 4 strKeyed Tryz.underlying125 _ ib (capV i) D4 rfl HD4.out ?_); intro w5 hrg5 hg5 hs5))
              have HB5 := Lib.hid (HB4.out.grown hg5 (fun _ hj => nomatch hj) hob htb hB)
              have HSet5 := Lib.hid (HSet4.out.kept hg5 (by simp))
              have hobw := HSet4.out.lt
              have hsz4 := HD4.out.size_le
              have hmul : (j + 1) * (1 + capV i) = j * (1 + capV i) + (1 + capV i) := Nat.succ_mul _ _
              have hk5 : k + 1 + size D4 ≤ (j + 1) * (1 + capV i) := by omega
              have hroom : ∀ q, q ≤ (j + 1) * (1 + capV i) → q < 1000000000000000000 := fun q hq => roomy (i := i) (by omega) (by have := capV_six i; have := Nat.mul_le_mul_right (1 + capV i) (show j + 1 ≤ 6 by omega); omega)
              have HK5 := Lib.hid hk5
              have HRoom := Lib.hid hroom
              have HRg5 := Lib.hid hrg5
              clear hsz4 hmul hk5 hroom hrg5 hg5 hl5 hg41 hg42 hcell hk
              obtain ⟨wo2, rfl⟩ : ∃ wo2 : World, wo2 = wr := ⟨_, rfl⟩
              go_frame
              go_loopw [13] (fun _ wr3 => ∃ (left : Lit → Bool) (cnt k3 : Nat) (G : ByteArray → Bool), wr3.ranges Tryz.prog 9 (plainElem Tryz.prog 4) ib w4.heap.size (capV i) D4 left cnt ∧ SetIs wr3 (w1.heap.size + 1) G k3 ∧
                (∀ z, G z = (ownV F (x.made.take j) z || sameS z y || (owny z && !left (klit z)))) ∧ k3 + cnt ≤ (j + 1) * (1 + capV i) ∧ OwnBase B w xs.length (some ⟨b, off, none⟩) c i x (some ⟨b4, off4, none⟩) c3 wo.heap.size (w1.heap.size + 1) F wr3) (fun _ wr3 => wr3.rangeLeft ib w4.heap.size)
              case atStart => exact ⟨has D4, size D4, k + 1, _, HRg5.out, HSet5.out, fun z => by rw [(HDv4.out z).1]; cases owny z <;> simp, HK5.out, HB5.out⟩
              case round =>
                obtain ⟨left, cnt, k3, G, hrg, hsetG, hG, hk3, hb3⟩ := hrel
                have HRg := Lib.hid hrg
                have HSetG := Lib.hid hsetG
                have HG3 := Lib.hid hG
                have HB3 := Lib.hid hb3
                have HK3 := Lib.hid hk3
                clear hrg hsetG hG hb3 hk3
                go_wp2_with (first
                  | (at_next; go_must (refine wpList_next_set _ rfl (.tmp 65) rfl ib w4.heap.size _ D4 left cnt rfl HRg.out (fun hc0 hl0 => ?_) (fun z cb w6 cnt' hzs hleft hhas hrg6 hlt6 hg6 hs6 hen => ?_)))
                  | (at_mapUpdate; go_must (refine wpList_set_add _ rfl (.tmp 70) (.tmp 71) _ rfl (w1.heap.size + 1) k3 G rfl (HSetG.out.kept hg6 (by simp; omega)) (HRoom.out _ (by have := HK3.out; omega)) z rfl rfl hzs ?_); intro w7 hset7 hg7))
                · have hG0 : ∀ z, ownV F (x.made.take (j + 1)) z = G z := fun z => by
                    have h1 := congrFun HOwnS.out z
                    rw [HInner.out] at h1
                    rw [h1, HG3.out z, hl0]
                    simp
                  have HRes := Lib.hid (HSetG.out.congr hG0)
                  go_roundw
                  case rel => exact ⟨j + 1, k3, by go_num, by omega, HB3.out, by have := HK3.out; omega, HRes.out⟩
                  case measure => simp [intOf]; omega
                · have hb6 := HB3.out.grown hg6 (fun q hq => by injection hq with hq; omega) hob htb hB
                  have hb7 := hb6.grown hg7 (fun q hq => by injection hq with hq; omega) hob htb hB
                  have hr7 := hrg6.kept hg7 (by simp; omega) (by simp; omega)
                  have hG7 : ∀ z', (G z' || sameS z' z) = (ownV F (x.made.take j) z' || sameS z' y || (owny z' && !(left (klit z') && !(klit z').sameKey (klit z)))) := fun z' => by
                    rw [HG3.out z', klit_same]
                    cases hs : sameS z' z with
                    | true =>
                      have e := sameS_iff.1 hs
                      subst e
                      have ho : owny z' = true := by rw [← (HDv4.out z').1]; exact hhas
                      simp [ho]
                    | false => simp
                  have hk7 : k3 + 1 + cnt' ≤ (j + 1) * (1 + capV i) := by have := HK3.out; omega
                  have hm7 : w7.rangeLeft ib w4.heap.size < wr.rangeLeft ib w4.heap.size := by rw [hr7.left_eq, HRg.out.left_eq]; exact hlt6
                  go_roundw
                  case rel => exact ⟨_, _, _, _, _, _, _, ⟨_, cnt', k3 + 1, _, hr7, hset7, hG7, hk7, hb7⟩, rfl⟩
                  case measure => exact hm7
            · have hje : j = x.made.length := by omega
              subst hje
              rw [List.take_length] at HSet2
              have hg1 : wr.cell? ⟨w.heap.size + 1 + 1, 1, none⟩ = some (.map (some (w.heap.size + 1))) := p2.cellAt 1 rfl
              have hT0 : wr.cell? ⟨wo.heap.size, 0, none⟩ = some (.string x.name) := pT.cellAt 0 rfl
              have hg2 := p2.lt
              have hT2 := pT.lt
              have hkc : k ≤ 7 * capV i := by have := capV_six i; have := Nat.mul_le_mul_right (1 + capV i) (show x.made.length ≤ 6 by omega); omega
              have hF' := (pF.more (Nat.le_succ _)).mono (show capV i ≤ 7 * capV i by omega)
              have hS' := HSet2.out.mono hkc
              have HF' := Lib.hid hF'
              have HS' := Lib.hid hS'
              have HP0 := Lib.hid p0
              have HP2 := Lib.hid p2
              have hi19 : i < 1000000 := by omega
              clear hF' hS' p0 p2 pT pF pr2 hk hkc
              go_wp2_with (at_mapUpdate; go_must (refine wpList_from_put _ rfl (.tmp 74) (.tmp 76) (.tmp 77) rfl (w1.heap.size + 1 + 1) (w.heap.size + 1) i (7 * capV i) (w1.heap.size + 1) F _ rfl HF'.out (by omega) x.name rfl rfl hsm1 HS'.out (Nat.lt_succ_self _) (by omega) ?_); intro w7 hF7 hg7)
              have k0 := HP0.out.grown hg7 (by simp)
              have k2 := HP2.out.grown hg7 (by simp)
              have hsz7 := hg7.size
              have hq7 : Below w.heap.size w w7 := pq.grown hg7 pq.size (fun q hq => by injection hq with hq; omega)
              have hlt7 : w1.heap.size + 1 < wr.heap.size := HSet2.out.lt
              have hrel : FamRel w xs (some ⟨b, off, none⟩) c (i + 1) w7 := ⟨k0, k2, by rw [HFS.out, capV_succ]; exact hF7.more (by omega), hq7⟩
              go_roundw
              case rel => exact ⟨i + 1, by go_num, by omega, HG.out, hrel⟩
              case measure => simp [intOf]; omega
        · have hz2 : (lotsE1 xs i == 0) = false := by simpa using hz
          have HG := Lib.hid (show openLotsV xs = (i, lotsE1 xs i) by rw [HV.out, HF.out, if_neg hz])
          have HZ := Lib.hid hz
          clear hz
          go_wp2_with (go_at_call 45; go_must (refine (first3' _ _ _ _ _ _ (by first | (go_simp; done) | (go_simp; rfl)) (by first | (go_simp; done) | (go_simp; rfl)) (by first | (go_simp; done) | (go_simp; rfl)) _ HE.out).mono ?_); rintro e w' ⟨rfl, rfl⟩)
          refine bodyPost_ret (v := .tuple #[.agg #[.slice (some ⟨b, off, none⟩) xs.length c, .map (some (w.heap.size + 1))], .int .i64 (i : Int), .int .i64 (lotsE1 xs i)]) (by simp [results, Tryz.results67, go_sem, e0, e1, x0]) rfl ?_
          have hF1 := (HQF1.out.cell k0 (p := ⟨w.heap.size, 0, none⟩) rfl (.slice (some ⟨b, off, none⟩) xs.length c)).cell (k0.set_ 0 (.slice (some ⟨b, off, none⟩) xs.length c)) (p := ⟨w.heap.size, 1, none⟩) rfl (.map (some (w.heap.size + 1)))
          refine ⟨w.heap.size + 1, F, i, capV i, by rw [HG.out], ?_, (by rw [HG.out]; exact fun h => absurd h HZ.out), pa (ps (ps hq1 (by dsimp only; omega)) (by dsimp only; omega))⟩
          have hF2 := hF1.below ((pa (o := .cells #[.int .i64 (lotE x), .int .i64 (unlessV (goneB F x.name) 5), .int .i64 (unlessV (!miss) 6)] 37) (Below.refl _ _)).mono (by first | omega | (simp; omega)))
          exact hF2.more (by first | omega | (simp; omega))
      · have hie : i = xs.length := by omega
        subst hie
        have HG := Lib.hid (show openLotsV xs = (0, 0) by rw [HV.out, hf]; exact scan_end (Nat.le_refl _))
        have HQF := Lib.hid qF
        have HQ0 := Lib.hid q0
        have e0 : wr.cell? ⟨w.heap.size, 0, none⟩ = some (.slice none 0 0) := q0.cellAt 0 rfl
        have e1 : wr.cell? ⟨w.heap.size, 1, none⟩ = some (.map none) := q0.cellAt 1 rfl
        have f0 := q0.frozen 0
        have f1 := q0.frozen 1
        have g0 : wr.cell? ⟨w.heap.size + 1 + 1, 0, none⟩ = some (.slice A xs.length c) := q2.cellAt 0 rfl
        have g1 : wr.cell? ⟨w.heap.size + 1 + 1, 1, none⟩ = some (.map (some (w.heap.size + 1))) := q2.cellAt 1 rfl
        have x0 := q0.lt
        have x2 := q2.lt
        clear hf qF q0 q2
        go_wp2
        refine bodyPost_ret (v := .tuple #[.agg #[.slice A xs.length c, .map (some (w.heap.size + 1))], .int .i64 0, .int .i64 0]) (by simp [results, Tryz.results67, go_sem, e0, e1]) rfl ?_
        refine ⟨w.heap.size + 1, fromV xs xs.length, xs.length, capV xs.length, by rw [HG.out]; rfl, ?_, fun _ => ⟨rfl, rfl, rfl⟩, ps (ps hq (by dsimp only; omega)) (by dsimp only; omega)⟩
        have h := (HQF.out.cell HQ0.out (p := ⟨w.heap.size, 0, none⟩) rfl (.slice A xs.length c)).cell (HQ0.out.set_ 0 (.slice A xs.length c)) (p := ⟨w.heap.size, 1, none⟩) rfl (.map (some (w.heap.size + 1)))
        exact h.more (by simp)

theorem openLots_any (B : Nat) (xs : List Lot) (A : Option Addr) (c : Nat) (w : World) (hr : LotsIn B w A xs) (hB : B ≤ w.heap.size) (hs : SmallLots xs) :
    Calls Tryz.prog 67 #[.slice A xs.length c] w (LotsPost xs A c w) := by
  refine (openLots_any2 B xs A c w hr hB hs).mono fun e w' ⟨fm, F, k, cap, h1, h2, h3, h4⟩ => ⟨fm, h1, fun h => ?_, h4⟩
  obtain ⟨rfl, rfl, rfl⟩ := h3 h
  exact h2

end Go.Proofs.YtbojmcopagbheaaGreatDoor
end

section
namespace Go.Proofs.YtbojmcopagbheaaGreatDoor
open Go.RowKit Go.Maps

def badB (x : Lot) : Bool := acceptV x != 2
def suspB (F : Fam) (bad : List ByteArray) (x : Lot) : Bool := anyG (touchB F x.name) bad
def suspectsV (xs : List Lot) : List ByteArray := namesV (suspB (fromV xs xs.length) (namesV badB xs)) xs

theorem fromV_some (xs : List Lot) : ∀ (k i : Nat), i < k → goneB (fromV xs k) (xs.getD i default).name = false
  | 0, _, h => by omega
  | k + 1, i, h => by
    unfold goneB
    show (if sameS (xs.getD i default).name (xs.getD k default).name then some (ownV (fromV xs k) (xs.getD k default).made) else fromV xs k (xs.getD i default).name).isNone = false
    split
    · rfl
    · rename_i hs
      rcases Nat.lt_or_ge i k with h1 | h1
      · exact fromV_some xs k i h1
      · obtain rfl : i = k := by omega
        exact absurd (sameS_self _) hs

theorem bad1_any (x : Lot) (A : Option Addr) (n c : Nat) (w : World) :
    Calls Tryz.prog 69 #[.agg #[.string x.name, .slice A n c, .int .i64 x.mlo, .int .i64 x.mhi, .int .i64 x.llo, .int .i64 x.lhi]] w fun e w' => e = .returned (.bool (badB x)) ∧ Below w.heap.size w w' := by
  have HB := Lib.hid (show badB x = (acceptV x != 2) from rfl)
  have hacc := accept_any x A n c
  generalize acceptV x = V at *
  go_enter Tryz.func69, Tryz.ntmps69
  go_wp2_with (go_at_call 70; refine (hacc _).mono ?_; rintro e w1 ⟨rfl, hb⟩)
  go_ret
  exact ⟨ret_bool HB.out.symm, pt (pa pr) hb⟩

set_option maxHeartbeats 1000000 in
theorem suspect2_any (B qb fb fm k cap cb : Nat) (F : Fam) (bad : List ByteArray) (Ab : Option Addr) (x : Lot) (A : Option Addr) (n c : Nat) (w : World) (hB : B ≤ w.heap.size) (hq : w.cell? ⟨qb, 0, none⟩ = some (.slice Ab bad.length cb)) (hqb : qb < B) (hr : RowIn Value.string B w Ab bad)
    (hf : w.cell? ⟨fb, 1, none⟩ = some (.map (some fm))) (hfb : fb < B) (hF : FromIs B w fm F k cap) (hn : x.name.size ≤ 1000) (hbad : ∀ j, j < bad.length → (bad.getD j default).size ≤ 1000) (hlen : bad.length ≤ 1000) (hin : goneB F x.name = false) :
    Calls Tryz.prog 71 #[.agg #[.string x.name, .slice A n c, .int .i64 x.mlo, .int .i64 x.mhi, .int .i64 x.llo, .int .i64 x.lhi], .pointer (some ⟨qb, 0, none⟩), .pointer (some ⟨fb, 0, none⟩)] w fun e w' => e = .returned (.bool (suspB F bad x)) ∧ Below w.heap.size w w' := by
  have hcf := containsFuncS_suspect B Ab bad.length cb bad (touchB F x.name) (.pointer (some ⟨w.heap.size, 0, none⟩)) (.pointer (some ⟨fb, 0, none⟩)) (w.alloc (.cells #[.string x.name, .slice A n c, .int .i64 x.mlo, .int .i64 x.mhi, .int .i64 x.llo, .int .i64 x.lhi] 58)) (hr.below ((pa pr).mono hB)) rfl hlen
    (fun j hj => suspect1_any w.heap.size fb fm B k cap F x.name _ _ ((Blk.newAt rfl).cellAt 0 rfl) (((bcell ((pa pr).mono hB)).1 fb 1 hfb).trans hf) (hF.below ((pa pr).mono hB)) hn (hbad j hj) hin)
  have HCF := Lib.hid hcf
  have HR := Lib.hid (show suspB F bad x = anyG (touchB F x.name) bad from rfl)
  have hqw : qb < w.heap.size := by omega
  clear hcf hr hF hbad hf
  go_enter Tryz.func71, Tryz.ntmps71
  go_wp2_with (go_at_call 72; go_must (refine HCF.out.mono ?_); rintro e w1 ⟨rfl, rfl⟩)
  go_ret
  exact ⟨ret_bool HR.out.symm, pa pr⟩

theorem namesV_size {p : Lot → Bool} {xs : List Lot} (hs : SmallLots xs) : ∀ j, j < (namesV p xs).length → ((namesV p xs).getD j default).size ≤ 1000 := by
  intro j hj
  have hm : (namesV p xs).getD j default ∈ namesV p xs := getD_in hj
  unfold namesV at hm
  obtain ⟨x, hx, he⟩ := List.mem_map.1 hm
  obtain ⟨i, hi, hxi⟩ := List.getElem_of_mem (List.mem_filter.1 hx).1
  have h := (hs.2 i hi).1
  rw [show xs.getD i default = x by simp [List.getD, hi, hxi]] at h
  unfold namesV
  rw [← he]
  exact h
theorem namesV_le (p : Lot → Bool) (xs : List Lot) : (namesV p xs).length ≤ xs.length := by
  have := namesV_len p xs xs.length
  rwa [List.take_length] at this

def SuspPost (xs : List Lot) (w : World) (e : Ending) (w' : World) : Prop :=
  ∃ A c, e = .returned (.tuple #[.slice A (suspectsV xs).length c, .int .i64 0]) ∧ RowIn Value.string w'.heap.size w' A (suspectsV xs) ∧ (suspectsV xs).length ≤ c ∧ Below w.heap.size w w'

set_option maxHeartbeats 2000000 in
set_option maxRecDepth 100000 in
theorem suspectsIn_err (B : Nat) (xs : List Lot) (A : Option Addr) (c : Nat) (w : World) (hr : LotsIn B w A xs) (hB : B ≤ w.heap.size) (hs : SmallLots xs) (he : (openLotsV xs).2 ≠ 0) :
    Calls Tryz.prog 27 #[.slice A xs.length c] w fun e w' => e = .returned (.tuple #[.slice none 0 0, .int .i64 (openLotsV xs).2]) ∧ Below w.heap.size w w' := by
  have HO := Lib.hid (openLots_any B xs A c w hr hB hs)
  have hne : ((openLotsV xs).2 != 0) = true := by simpa using he
  clear hr hs he
  unfold LotsPost at HO
  generalize (openLotsV xs).1 = I at *
  generalize (openLotsV xs).2 = E at *
  go_enter Tryz.func27, Tryz.ntmps27
  go_wp2_with (go_at_call 67; go_must (refine HO.out.mono ?_); rintro e w1 ⟨fm, rfl, _, hb1⟩)
  go_ret2
  exact ⟨rfl, pa hb1⟩

theorem susp_names (B : Nat) (xs : List Lot) (A A2 : Option Addr) (c c2 fm : Nat) (w w1 w2 : World) (hr : LotsIn B w A xs) (hB : B ≤ w.heap.size) (hs : SmallLots xs) (hb1 : Below w.heap.size w w1) (hF : FromIs w1.heap.size w1 fm (fromV xs xs.length) xs.length (capV xs.length))
    (hb2 : Below (w1.alloc (.cells #[.slice A xs.length c, .map (some fm)] 120)).heap.size (w1.alloc (.cells #[.slice A xs.length c, .map (some fm)] 120)) w2) (hrow : RowIn Value.string w2.heap.size w2 A2 (namesV badB xs)) :
    Calls Tryz.prog 68 #[.agg #[.slice A xs.length c, .map (some fm)], .func (.func 71) #[] #[.pointer (some ⟨w2.heap.size, 0, none⟩), .pointer (some ⟨w1.heap.size, 0, none⟩)]] (w2.alloc (.cells #[.slice A2 (namesV badB xs).length c2] 56)) (NamesPost (suspB (fromV xs xs.length) (namesV badB xs)) xs (w2.alloc (.cells #[.slice A2 (namesV badB xs).length c2] 56))) := by
  have hb12 : Below w1.heap.size w1 w2 := pt (pa pr) hb2
  have hb1W : Below w1.heap.size w1 (w2.alloc (.cells #[.slice A2 (namesV badB xs).length c2] 56)) := pa hb12
  have hbw : Below w.heap.size w (w2.alloc (.cells #[.slice A2 (namesV badB xs).length c2] 56)) := pt hb1 hb1W
  have hlt1 : w1.heap.size < w2.heap.size := by have := hb2.size; simp at this; omega
  have kF := ((Blk.new w1 120 #[.slice A xs.length c, .map (some fm)]).past hb2).alloc (o := .cells #[.slice A2 (namesV badB xs).length c2] 56)
  have kQ : Blk (w2.alloc (.cells #[.slice A2 (namesV badB xs).length c2] 56)) w2.heap.size 56 #[.slice A2 (namesV badB xs).length c2] := Blk.new _ _ _
  refine names_suspect B xs A c fm _ _ _ _ (hr.below (hbw.mono hB)) (Nat.le_trans hB hbw.size) hs.1 fun i hi W hW A1 c1 => ?_
  have hsz := hW.size
  simp only [World.size_alloc] at hsz
  exact suspect2_any (w2.heap.size + 1) w2.heap.size w1.heap.size fm xs.length (capV xs.length) c2 _ _ A2 _ A1 _ c1 W hsz ((kQ.past hW).cellAt 0 rfl) (by omega) (((hrow.below ((pa pr : Below w2.heap.size w2 (w2.alloc (.cells #[.slice A2 (namesV badB xs).length c2] 56))))).more (by omega)).below (hW.mono (by simp)))
    ((kF.past hW).cellAt 1 rfl) (by omega) (((hF.below hb1W).more (by omega)).below (hW.mono (by simp))) (hs.2 i hi).1 (namesV_size hs) (Nat.le_trans (namesV_le _ _) hs.1) (fromV_some xs xs.length i hi)

set_option maxHeartbeats 2000000 in
set_option maxRecDepth 100000 in
theorem suspectsIn_ok (B : Nat) (xs : List Lot) (A : Option Addr) (c : Nat) (w : World) (hr : LotsIn B w A xs) (hB : B ≤ w.heap.size) (hs : SmallLots xs) (he : (openLotsV xs).2 = 0) :
    Calls Tryz.prog 27 #[.slice A xs.length c] w (SuspPost xs w) := by
  have ho := openLots_any B xs A c w hr hB hs
  unfold LotsPost at ho
  rw [he] at ho
  have HO := Lib.hid ho
  have HSm := Lib.hid hs
  have HR := Lib.hid hr
  have hm := hs.1
  clear hr hs he ho
  generalize (openLotsV xs).1 = I at *
  go_enter Tryz.func27, Tryz.ntmps27
  go_wp2_with (first
    | (go_at_call 67; go_must (refine HO.out.mono ?_); rintro e w1 ⟨fm, rfl, hF, hb1⟩; have HF := Lib.hid (hF rfl); have HB1 := Lib.hid hb1; clear hF hb1; have hbad := names_bad B xs A c fm badB (w1.alloc (.cells #[.slice A xs.length c, .map (some fm)] 120)) (HR.out.below ((pa HB1.out).mono hB)) (Nat.le_trans hB (pa HB1.out).size) hm (fun i hi W hW A1 c1 => bad1_any _ A1 _ c1 W); have HBad := Lib.hid hbad; clear hbad)
    | (go_at_call 68; (with_reducible refine HSus.out.mono ?_); rintro e w3 ⟨A3, c3, rfl, hrow3, hc3, hb3⟩)
    | (go_at_call 68; go_must (refine HBad.out.mono ?_); rintro e w2 ⟨A2, c2, rfl, hrow2, hc2, hb2⟩; clear HBad; have hsus := susp_names B xs A A2 c c2 fm w w1 w2 HR.out hB HSm.out HB1.out HF.out hb2 hrow2; have HSus := Lib.hid hsus; have kF := (Blk.new w1 120 #[.slice A xs.length c, .map (some fm)]).past hb2; have g0 : w2.cell? ⟨w1.heap.size, 0, none⟩ = some (.slice A xs.length c) := kF.cellAt 0 rfl; have g1 : w2.cell? ⟨w1.heap.size, 1, none⟩ = some (.map (some fm)) := kF.cellAt 1 rfl; have gx := kF.lt; have HB2 := Lib.hid hb2; clear hsus kF hb2 hrow2))
  go_ret2
  exact ⟨A3, c3, rfl, hrow3, hc3, pt (pa (pt (pa HB1.out) HB2.out)) hb3⟩

end Go.Proofs.YtbojmcopagbheaaGreatDoor
end
