/- Contracts: the bound of chains, the program's and the specification's. Valid plans.
Contract: the specification's bound of chains. Valid plans.
Contracts: the bound of some tasks, the program's and the specification's. Valid plans, tasks in range. -/
import Derived.Test.YtbojmcopagbheaaGreatDoorRG
import Derived.Test.YtbojmcopagbheaaGreatDoorRA
import Derived.Test.YtbojmcopagbheaaGreatDoorRF

section
namespace Go.Proofs.YtbojmcopagbheaaGreatDoor
open Go.RowKit Go.Shelf

theorem headsV_ok {ts : List Task} (ha : AcyOk ts) (hl : LenOk ts) (hm : MachOk ts) (hp : PosOk ts) : ∀ j, 0 ≤ (headsV ts).getD j 0 ∧ (headsV ts).getD j 0 ≤ 90000 := fun j => by
  by_cases hj : j < ts.length
  · obtain ⟨b, _, h2, _, h4, _⟩ := best_min ha hl hm hp
    have h5 := feas_heads ha hl hp h2 hj
    have h6 := h4 j
    have h7 : (ts.getD j default).release ≤ (headsV ts).getD j 0 := by rw [← heads_fix ha hj]; exact maxF_ge.1
    have h8 := hl j hj
    omega
  · have : (headsV ts).getD j 0 = 0 := by simp [List.getD, List.getElem?_eq_none (show (headsV ts).length ≤ j by rw [heads_len ha]; omega)]
    omega

def pathR (ts : List Task) (hs tl : List Int) : Nat → Nat → Int → Int
  | 0, _, o => o
  | k + 1, i, o => pathR ts hs tl k (i + 1) (max o (hs.getD i 0 + (ts.getD i default).length + tl.getD i 0))
def pathV (ts : List Task) : Int := pathR ts (headsV ts) (tailsV ts) ts.length 0 0

theorem ints_of_iarr {w : World} {g B : Nat} {xs : List Int} (h : Blk w g 3 (iarr xs)) (hB : g < B) : IntsIn B w (some ⟨g, 0, none⟩) xs :=
  .inr ⟨g, 0, rfl, hB, fun j hj => by rw [Nat.zero_add]; exact h.cellAt j (iarr_get xs j hj)⟩


end Go.Proofs.YtbojmcopagbheaaGreatDoor
end

section
namespace Go.Proofs.YtbojmcopagbheaaGreatDoor
open Go.RowKit Go.Shelf


end Go.Proofs.YtbojmcopagbheaaGreatDoor
end

section
namespace Go.Proofs.YtbojmcopagbheaaGreatDoor
open Go.RowKit Go.Shelf

def busyR (ts : List Task) (hs tl : List Int) : List Int → Int → Int → Int → Int
  | [], h, t, s => h + s + t
  | n :: l, h, t, s => busyR ts hs tl l (min h (hs.getD n.toNat 0)) (min t (tl.getD n.toNat 0)) (s + (ts.getD n.toNat default).length)
/-- The bound of some tasks. -/
def busyV (ts : List Task) (l : List Int) : Int := busyR ts (headsV ts) (tailsV ts) l ((headsV ts).getD (l.getD 0 0).toNat 0) ((tailsV ts).getD (l.getD 0 0).toNat 0) 0
def TasksOk (n : Nat) (l : List Int) : Prop := 1 ≤ l.length ∧ l.length ≤ 1000 ∧ ∀ j, j < l.length → 0 ≤ l.getD j 0 ∧ l.getD j 0 < (n : Int)
theorem busyR_step (ts : List Task) (hs tl l : List Int) (h t s : Int) (j : Nat) (hj : j < l.length) : busyR ts hs tl (l.drop j) h t s = busyR ts hs tl (l.drop (j + 1)) (min h (hs.getD (l.getD j 0).toNat 0)) (min t (tl.getD (l.getD j 0).toNat 0)) (s + (ts.getD (l.getD j 0).toNat default).length) := by
  have e : l.getD j 0 = l[j] := by simp [List.getD, hj]
  rw [List.drop_eq_getElem_cons hj, busyR, e]


set_option maxHeartbeats 2000000 in
set_option maxRecDepth 100000 in
theorem busy_any (B : Nat) (ts : List Task) (L : List Int) (A A2 : Option Addr) (c c2 : Nat) (m : Int) (w : World) (hr : TasksIn B w A ts) (hr2 : IntsIn B w A2 L) (hB : B ≤ w.heap.size) (ha : AcyOk ts) (hl : LenOk ts) (hm : MachOk ts) (hp : PosOk ts) (hL : TasksOk ts.length L) :
    Calls Tryz.prog 62 #[.agg #[.int .i64 m, .slice A ts.length c], .slice A2 L.length c2] w fun e w' => e = .returned (.int .i64 (busyV ts L)) ∧ Below w.heap.size w w' := by
  have h7 := ha.1.1
  have HH := Lib.hid fun W (hW : Below w.heap.size w W) => (callsIn_wide (n := 2)).1 (heads_in B 2 ts A c m W (Nat.le_refl _) (hr.below (hW.mono hB)) (Nat.le_trans hB hW.size) ha hl)
  have HT := Lib.hid fun W (hW : Below w.heap.size w W) => (callsIn_wide (n := 3)).1 (tails_in B 3 ts A c m W (Nat.le_refl _) (hr.below (hW.mono hB)) (Nat.le_trans hB hW.size) ha hl)
  have HHb := Lib.hid (headsV_ok ha hl hm hp)
  have HTb := Lib.hid (tailsV_ok ha.1 hl).2
  have HHl := Lib.hid (heads_len ha)
  have HTl := Lib.hid (tailsV_ok ha.1 hl).1
  have HL := Lib.hid hl
  have HV := Lib.hid (show busyV ts L = busyR ts (headsV ts) (tailsV ts) L ((headsV ts).getD (L.getD 0 0).toNat 0) ((tailsV ts).getD (L.getD 0 0).toNat 0) 0 from rfl)
  generalize busyV ts L = V at *
  generalize headsV ts = hs_ at *
  generalize tailsV ts = tl_ at *
  have HR := Lib.hid hr
  have HR2 := Lib.hid hr2
  obtain ⟨hL1, hL2, hL3⟩ := hL
  have HLr := Lib.hid hL3
  clear ha hl hm hp hr hr2 hL3
  go_enter Tryz.func62, Tryz.ntmps62
  go_wp2_with (fail)
  have RA := Lib.hid (Blk.newAt (w := w) (t := 102) (cs := #[.int .i64 m, .slice A ts.length c]) rfl)
  have HBo := Lib.hid (show Below w.heap.size w (w.alloc (.cells #[.int .i64 m, .slice A ts.length c] 102)) from pa pr)
  generalize w.alloc (.cells #[.int .i64 m, .slice A ts.length c] 102) = wo at *
  have HS := Lib.hid (show ∀ W, Hid (Below wo.heap.size wo W) → Hid (Below wo.heap.size wo W) ∧ W.cell? ⟨w.heap.size, 0, none⟩ = some (.int .i64 m) ∧ W.cell? ⟨w.heap.size, 1, none⟩ = some (.slice A ts.length c) from fun W hW => ⟨hW, (RA.out.past hW.out).cellAt 0 rfl, (RA.out.past hW.out).cellAt 1 rfl⟩)
  have x0 := RA.out.lt
  go_region_held3 (fun w' => Hid (Below wo.heap.size wo w') ∧ w'.cell? ⟨w.heap.size, 0, none⟩ = some (.int .i64 m) ∧ w'.cell? ⟨w.heap.size, 1, none⟩ = some (.slice A ts.length c)) ((refine HS.out _ (Lib.hid ?_); repeat (first | assumption | (with_reducible exact pr) | (with_reducible refine pd ?_) | (with_reducible refine pa ?_) | (with_reducible refine pt ?_ (by assumption)))))
    (first
      | (go_at_call 101; (with_reducible refine (HH.out _ (pt HBo.out (pd pr))).mono ?_); rintro e w2 ⟨g, rfl, hg, hgl, hb2⟩)
      | (go_at_call 58; (with_reducible refine (HT.out _ (pt (pt HBo.out (pd pr)) hb2)).mono ?_); rintro e w3 ⟨g2, rfl, hg2, hgl2, hb3⟩))
  have hbw3 : Below wo.heap.size wo w3 := pt (pt (pd pr) hb2) hb3
  have HG := Lib.hid (hg.past hb3)
  have HG2 := Lib.hid hg2
  have RA3 := Lib.hid (RA.out.past hbw3)
  have HB3 := Lib.hid (pt HBo.out hbw3)
  clear hbw3 hg hg2 hgl hgl2 hb2 hb3 HS x0 RA HBo
  obtain ⟨b2, off2, hA2, hbB2, hc2⟩ := HR2.out.at_ (k := 0) (by omega)
  subst hA2
  have HC2 := Lib.hid hc2
  have f0 : w3.cell? ⟨b2, off2, none⟩ = some (.int .i64 (L.getD 0 0)) := ((bcell (HB3.out.mono hB)).1 _ _ hbB2).trans (hc2 0 (by omega))
  have l00 : 0 < L.length := by omega
  have hn0 := HLr.out 0 (by omega)
  obtain ⟨n, hn⟩ : ∃ n : Nat, L.getD 0 0 = (n : Int) := ⟨(L.getD 0 0).toNat, by omega⟩
  rw [hn] at f0 hn0
  have HV2 := Lib.hid (show V = busyR ts hs_ tl_ L (hs_.getD n 0) (tl_.getD n 0) 0 by rw [HV.out, hn, Int.toNat_natCast])
  clear hc2 hn HV
  have hnt : n < ts.length := by omega
  have gh : w3.cell? ⟨g, n, none⟩ = some (.int .i64 (hs_.getD n 0)) := HG.out.cellAt n (iarr_get hs_ n (by rw [HHl.out]; exact hnt))
  have gt : w3.cell? ⟨g2, n, none⟩ = some (.int .i64 (tl_.getD n 0)) := HG2.out.cellAt n (iarr_get tl_ n (by rw [HTl.out]; exact hnt))
  have gl := HG.out.lt
  have gl2 := HG2.out.lt
  have zb2 : b2 < w3.heap.size := by have := HB3.out.size; omega
  have n1 : (n : Int) < (ts.length : Int) := by omega
  have n0 : (0 : Int) ≤ (n : Int) := by omega
  have l0 : (0 : Int) < (L.length : Int) := by omega
  have hbd0 := Lib.hid (And.intro (HHb.out n) (HTb.out n))
  generalize hs_.getD n 0 = h0 at *
  generalize tl_.getD n 0 = t0 at *
  go_wp2
  go_quiet (fail)
  go_wp2
  obtain ⟨wq, hwq⟩ : ∃ wq, wq = w3.drewN nq := ⟨_, rfl⟩
  have HBq := Lib.hid (show Below w3.heap.size w3 wq by rw [hwq]; exact below_drewN' pr nq)
  rw [← hwq]
  clear hwq gh gt gl gl2 zb2 f0
  go_loopw [7, 8, 9, 30] (fun hv tv sv iv wr => ∃ (h t s : Int) (i : Nat), hv = .int .i64 h ∧ tv = .int .i64 t ∧ sv = .int .i64 s ∧ iv = .int .i64 (i : Int) ∧ i ≤ L.length ∧ V = busyR ts hs_ tl_ (L.drop i) h t s ∧ (0 ≤ h ∧ h ≤ 90000 ∧ 0 ≤ t ∧ t ≤ 1000000 ∧ 0 ≤ s ∧ s ≤ ((10000 * i : Nat) : Int)) ∧ Below w3.heap.size w3 wr) (fun _ _ _ iv _ => L.length - (intOf iv).toNat)
  case atStart => exact ⟨h0, t0, 0, 0, rfl, rfl, rfl, rfl, Nat.zero_le _, HV2.out, by have := hbd0.out; omega, HBq.out⟩
  case round =>
    obtain ⟨h, t, s, i, rfl, rfl, rfl, rfl, hi, hrun, hob, hq⟩ := hrel
    have HRun := Lib.hid hrun
    have HQ := Lib.hid hq
    have a1 := (RA3.out.past hq).cellAt 1 rfl
    have x1 := (RA3.out.past hq).lt
    clear hrun hq
    by_cases hlt : i < L.length
    · have hq := pt HB3.out HQ.out
      have f1 := ((bcell (hq.mono hB)).1 _ _ hbB2).trans (HC2.out i hlt)
      have hni := HLr.out i hlt
      obtain ⟨k, hk⟩ : ∃ k : Nat, L.getD i 0 = (k : Int) := ⟨(L.getD i 0).toNat, by omega⟩
      rw [hk] at f1 hni
      have HStep := Lib.hid (show V = busyR ts hs_ tl_ (L.drop (i + 1)) (min h (hs_.getD k 0)) (min t (tl_.getD k 0)) (s + (ts.getD k default).length) by
        rw [HRun.out, busyR_step ts hs_ tl_ L h t s i hlt, hk, Int.toNat_natCast])
      have hkt : k < ts.length := by omega
      obtain ⟨b, off, hA, hbB, hct⟩ := HR.out.at_ hkt
      obtain ⟨_, t1w, _, _, _, _, _, _⟩ := hct k hkt
      have t1 := ((bcell (hq.mono hB)).1 _ _ hbB).trans t1w
      have hbw : b < wr.heap.size := by have := hq.size; omega
      have zb2 : b2 < wr.heap.size := by have := hq.size; omega
      have i0 : (0 : Int) ≤ (i : Int) := by omega
      have i1 : (i : Int) < (L.length : Int) := by omega
      have k0 : (0 : Int) ≤ (k : Int) := by omega
      have k1 : (k : Int) < (ts.length : Int) := by omega
      have h1 := HHb.out k
      have h2 := HTb.out k
      have h3 := HL.out k hkt
      have hw1 : IntKind.i64.wrap (s + (ts.getD k default).length) = s + (ts.getD k default).length := IntWalk.i64_in _ (by omega)
      have G1 := HG.out.past HQ.out
      have G2 := HG2.out.past HQ.out
      have gh : wr.cell? ⟨g, k, none⟩ = some (.int .i64 (hs_.getD k 0)) := G1.cellAt k (iarr_get hs_ k (by rw [HHl.out]; exact hkt))
      have gt : wr.cell? ⟨g2, k, none⟩ = some (.int .i64 (tl_.getD k 0)) := G2.cellAt k (iarr_get tl_ k (by rw [HTl.out]; exact hkt))
      have gl := G1.lt
      have gl2 := G2.lt
      subst hA
      have hbd : (0 ≤ min h (hs_.getD k 0) ∧ min h (hs_.getD k 0) ≤ 90000 ∧ 0 ≤ min t (tl_.getD k 0) ∧ min t (tl_.getD k 0) ≤ 1000000 ∧ 0 ≤ s + (ts.getD k default).length ∧ s + (ts.getD k default).length ≤ ((10000 * (i + 1) : Nat) : Int)) := by omega
      have HBd := Lib.hid hbd
      clear hct t1w hq h1 h2 h3 G1 G2 hk hbd
      generalize hs_.getD k 0 = hi_ at *
      generalize tl_.getD k 0 = ti_ at *
      generalize (ts.getD k default).length = li at *
      go_wp2
      go_quiet (fail)
      go_wp2
      go_roundw
      case rel => exact ⟨min h hi_, min t ti_, s + li, i + 1, by go_num, by go_num, by go_num, by go_num, by omega, HStep.out, HBd.out, below_drewN' HQ.out _⟩
      case measure => simp [intOf]; omega
    · have HRes := Lib.hid (show V = h + s + t by rw [HRun.out, List.drop_eq_nil_of_le (by omega)]; rfl)
      have hw1 : IntKind.i64.wrap (h + s) = h + s := IntWalk.i64_in _ (by omega)
      have hw2 : IntKind.i64.wrap (h + s + t) = h + s + t := IntWalk.i64_in _ (by omega)
      go_wp2
      go_ret
      exact ⟨ret_int HRes.out.symm, pt HB3.out HQ.out⟩

end Go.Proofs.YtbojmcopagbheaaGreatDoor
end
