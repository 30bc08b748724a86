/- The walk of TopWorksLots: it returns true. Printed by a program (gen_toplots.py). -/
import Derived.Test.YtbojmcopagbheaaGreatDoorR6
import Derived.Deep.DeepCutAuto
import Derived.Test.YtbojmcopagbheaaGreatDoorYLShown
import Derived.Test.YtbojmcopagbheaaGreatDoorYFLawL
import Derived.Test.YtbojmcopagbheaaGreatDoorR5
namespace Go.Proofs.YtbojmcopagbheaaGreatDoor
open Go.RowKit
attribute [local go_sem ↓] Go.wp_at_zero Go.wp_at_succ

theorem range_size2 : (Tryz.prog.info? 29).map (·.size) = some 2 := by kernel_rfl
/-- A lot is what its bytes say. -/
theorem lot_bytes (x : Lot) : ∃ nm M x1 x2 x3 x4, x = lotB (nm, M, x1, x2, x3, x4) := by
  obtain ⟨⟨⟨nm⟩⟩, ys, a, b, c, d⟩ := x
  refine ⟨nm, ys.map (fun b => b.data.toList), a, b, c, d, ?_⟩
  unfold lotB
  have e : (ys.map fun b => b.data.toList).map bytesL = ys := by
    rw [List.map_map]
    have e : (bytesL ∘ fun b : ByteArray => b.data.toList) = id := by
      funext b
      obtain ⟨⟨l⟩⟩ := b
      rfl
    rw [e, List.map_id]
  dsimp only
  rw [e]

set_option maxHeartbeats 8000000 in
set_option maxRecDepth 100000 in
theorem top_empty (A : Option Addr) (c : Nat) (xs : List Lot) (at_ : Int) (w : World) (hS : StrIn w) (hr : LotsIn w.heap.size w A xs) (hcap : xs.length ≤ c) (h0 : xs.length = 0) :
    Calls Tryz.prog 4 #[.slice A xs.length c, .int .i64 at_] w fun e w' => e = .returned (.bool true) ∧ Below w.heap.size w w' := by
  have HBx := Lib.hid (Below.refl w.heap.size w)
  have HSm := Lib.hid (fun W (hW : Below w.heap.size w W) => small_any w.heap.size xs A c W (hr.below hW) hW.size)
  have e1 : ((xs.length : Int) == 0) = true := by simp [h0]
  clear HSm
  go_enter Tryz.func4, Tryz.ntmps4
  go_wp2_with (first
    | (go_at_call 7; refine (shown_any _).mono ?_; rintro e w1 ⟨rfl, hb⟩; replace HBx := Lib.hid (pt HBx.out hb); clear hb))
  go_ret
  exact ⟨rfl, HBx.out⟩

set_option maxHeartbeats 8000000 in
set_option maxRecDepth 100000 in
theorem top_many (A : Option Addr) (c : Nat) (xs : List Lot) (at_ : Int) (w : World) (hS : StrIn w) (hr : LotsIn w.heap.size w A xs) (hcap : xs.length ≤ c) (h0 : 12 < xs.length) :
    Calls Tryz.prog 4 #[.slice A xs.length c, .int .i64 at_] w fun e w' => e = .returned (.bool true) ∧ Below w.heap.size w w' := by
  have HBx := Lib.hid (Below.refl w.heap.size w)
  have HSm := Lib.hid (fun W (hW : Below w.heap.size w W) => small_any w.heap.size xs A c W (hr.below hW) hW.size)
  have e1 : ((xs.length : Int) == 0) = false := beq_eq_false_iff_ne.2 (by omega)
  have e2 : (12 : Int) < (xs.length : Int) := by omega
  clear HSm
  go_enter Tryz.func4, Tryz.ntmps4
  go_wp2_with (first
    | (go_at_call 7; refine (shown_any _).mono ?_; rintro e w1 ⟨rfl, hb⟩; replace HBx := Lib.hid (pt HBx.out hb); clear hb))
  go_ret
  exact ⟨rfl, HBx.out⟩

set_option maxHeartbeats 8000000 in
set_option maxRecDepth 100000 in
theorem top_long (A : Option Addr) (c : Nat) (xs : List Lot) (at_ : Int) (w : World) (hS : StrIn w) (hr : LotsIn w.heap.size w A xs) (hcap : xs.length ≤ c) (h0 : 0 < xs.length) (h1 : xs.length ≤ 12) (h2 : smallB xs = false) :
    Calls Tryz.prog 4 #[.slice A xs.length c, .int .i64 at_] w fun e w' => e = .returned (.bool true) ∧ Below w.heap.size w w' := by
  have HBx := Lib.hid (Below.refl w.heap.size w)
  have HSm := Lib.hid (fun W (hW : Below w.heap.size w W) => small_any w.heap.size xs A c W (hr.below hW) hW.size)
  have e1 : ((xs.length : Int) == 0) = false := beq_eq_false_iff_ne.2 (by omega)
  have e2 : ¬ (12 : Int) < (xs.length : Int) := by omega
  rw [h2] at HSm
  go_enter Tryz.func4, Tryz.ntmps4
  go_wp2_with (first
    | (go_at_call 7; refine (shown_any _).mono ?_; rintro e w1 ⟨rfl, hb⟩; replace HBx := Lib.hid (pt HBx.out hb); clear hb)
    | (go_at_call 21; go_must (refine (HSm.out _ HBx.out).mono ?_); rintro e w1 ⟨rfl, hb⟩; replace HBx := Lib.hid (pt HBx.out hb); clear hb))
  go_ret
  exact ⟨rfl, HBx.out⟩

set_option maxHeartbeats 8000000 in
set_option maxRecDepth 100000 in
theorem top_err (A : Option Addr) (c : Nat) (xs : List Lot) (at_ : Int) (w : World) (hS : StrIn w) (hr : LotsIn w.heap.size w A xs) (hcap : xs.length ≤ c) (h0 : 0 < xs.length) (h1 : xs.length ≤ 12) (h2 : smallB xs = true) (h3 : (openLotsV xs).2 ≠ 0) :
    Calls Tryz.prog 4 #[.slice A xs.length c, .int .i64 at_] w fun e w' => e = .returned (.bool true) ∧ Below w.heap.size w w' := by
  have HBx := Lib.hid (Below.refl w.heap.size w)
  have HSm := Lib.hid (fun W (hW : Below w.heap.size w W) => small_any w.heap.size xs A c W (hr.below hW) hW.size)
  have e1 : ((xs.length : Int) == 0) = false := beq_eq_false_iff_ne.2 (by omega)
  have e2 : ¬ (12 : Int) < (xs.length : Int) := by omega
  rw [h2] at HSm
  have hle := fun W (hW : Below w.heap.size w W) => refLotsErr_any w.heap.size xs A c W (hr.below hW) hW.size (small_lots h2) hcap
  have e3 : ((openLotsV xs).2 != 0) = true := by simpa using h3
  generalize (openLotsV xs).2 = E at *
  have HLe := Lib.hid hle
  clear hle
  go_enter Tryz.func4, Tryz.ntmps4
  go_wp2_with (first
    | (go_at_call 7; refine (shown_any _).mono ?_; rintro e w1 ⟨rfl, hb⟩; replace HBx := Lib.hid (pt HBx.out hb); clear hb)
    | (go_at_call 21; go_must (refine (HSm.out _ HBx.out).mono ?_); rintro e w1 ⟨rfl, hb⟩; replace HBx := Lib.hid (pt HBx.out hb); clear hb)
    | (go_at_call 22; go_must (refine (HLe.out _ HBx.out).mono ?_); rintro e w3 ⟨rfl, hb⟩; replace HBx := Lib.hid (pt HBx.out hb); clear hb))
  go_ret
  exact ⟨rfl, HBx.out⟩

theorem TextRow.put {w W : World} {b : Nat} {A : Option Addr} {l : List ByteArray} {cs : Array Value} (h : TextRow w A l) (hp : Put w W b) (hb : Blk w b 58 cs) : TextRow W A l :=
  h.same fun g ds fz hg => hp.other g fun e => by
    subst e
    have hb : w.heap[g]? = some (.cells cs 58 (0, 0)) := hb
    rw [hg] at hb
    injection hb with hb
    injection hb with _ ht
    exact absurd ht (by decide)
theorem TextRow.allocT {w : World} {A : Option Addr} {l : List ByteArray} (h : TextRow w A l) {ob : Obj} : TextRow (w.alloc ob) A l := h.past (pa pr)
/-- A row of strings that a callee made: behind other calls and stores. -/
structure MadeRow (w : World) (A : Option Addr) (M : List (List UInt8)) : Prop where
  row : TextRow w A (M.map bytesL)
theorem MadeRow.past {w w' : World} {A : Option Addr} {M : List (List UInt8)} (h : MadeRow w A M) (hb : Below w.heap.size w w') : MadeRow w' A M := ⟨h.row.past hb⟩
theorem MadeRow.alloc {w : World} {A : Option Addr} {M : List (List UInt8)} (h : MadeRow w A M) {ob : Obj} : MadeRow (w.alloc ob) A M := h.past (pa pr)
theorem MadeRow.put {w W : World} {b : Nat} {A : Option Addr} {M : List (List UInt8)} {cs : Array Value} (h : MadeRow w A M) (hp : Put w W b) (hb : Blk w b 58 cs) : MadeRow W A M := ⟨h.row.put hp hb⟩
theorem MadeRow.txt {w : World} {A : Option Addr} {M : List (List UInt8)} (h : MadeRow w A M) : TxtIn w A M := cells_of_row h.row.row
theorem short_each {xs : List Lot} (h : smallB xs = true) {i : Nat} (hi : i < xs.length) : shortB (xs.getD i default) = true := by
  unfold smallB at h
  rw [Bool.and_eq_true, decide_eq_true_eq, decide_eq_true_eq] at h
  exact h.2 i hi
theorem lotE_each {xs : List Lot} (h : (openLotsV xs).2 = 0) {i : Nat} (hi : i < xs.length) : lotE (xs.getD i default) = 0 := (firstV_zero.1 ((open_each h).2 i hi)).1
/-- What a lot's string gives back. -/
theorem lot_again {nm : List UInt8} {M : List (List UInt8)} {x1 x2 x3 x4 : Int} (hE : lotE (lotB (nm, M, x1, x2, x3, x4)) = 0) : lotOut (parseL (fmtL nm M x1 x2 x3 x4)) = ((nm, M, x1, x2, x3, x4), 0) := by
  obtain ⟨e1, e2, ⟨e3, e4⟩, e5, e6⟩ := lotE_ok hE
  rw [parse_lot e1 e2 e3 e4 e5 e6]
  unfold lotOut
  dsimp only
  rw [if_pos hE]
theorem i64_small {n : Int} (h : -10000000 < n ∧ n < 10000000) : I64 n := by unfold I64; omega

set_option maxHeartbeats 8000000 in
set_option maxRecDepth 100000 in
theorem top_main (A : Option Addr) (c : Nat) (xs : List Lot) (at_ : Int) (w : World) (hS : StrIn w) (hr : LotsIn w.heap.size w A xs) (hcap : xs.length ≤ c) (h0 : 0 < xs.length) (h1 : xs.length ≤ 12) (h2 : smallB xs = true) (h3 : (openLotsV xs).2 = 0) :
    Calls Tryz.prog 4 #[.slice A xs.length c, .int .i64 at_] w fun e w' => e = .returned (.bool true) ∧ Below w.heap.size w w' := by
  have HBx := Lib.hid (Below.refl w.heap.size w)
  have HSm := Lib.hid (fun W (hW : Below w.heap.size w W) => small_any w.heap.size xs A c W (hr.below hW) hW.size)
  have e1 : ((xs.length : Int) == 0) = false := beq_eq_false_iff_ne.2 (by omega)
  have e2 : ¬ (12 : Int) < (xs.length : Int) := by omega
  rw [h2] at HSm
  have hs := small_lots h2
  have hle := fun W (hW : Below w.heap.size w W) => refLotsErr_any w.heap.size xs A c W (hr.below hW) hW.size hs hcap
  rw [h3] at hle
  have HLe := Lib.hid hle
  have HShort := Lib.hid (fun i (hi : i < xs.length) => short_each h2 hi)
  have HE := Lib.hid (fun i (hi : i < xs.length) => lotE_each h3 hi)
  have HR := Lib.hid hr
  have HSt := Lib.hid (fun W (hW : Below w.heap.size w W) => hS.kept hW)
  obtain ⟨i0, hi0, hz0, hz1, hz2⟩ := info_parts lot_info
  have HK := Lib.hid (fun (k : Nat) (hk : k < xs.length) => top_lots h3 (fun i hi => lotE_each h3 hi) hk)
  have HS := Lib.hid hs
  have H3 := Lib.hid h3
  clear hle hr hS hs h2 h3
  go_enter Tryz.func4, Tryz.ntmps4
  go_wp2_with (first
    | (go_at_call 7; refine (shown_any _).mono ?_; rintro e w1 ⟨rfl, hb⟩; replace HBx := Lib.hid (pt HBx.out hb); clear hb)
    | (go_at_call 21; go_must (refine (HSm.out _ HBx.out).mono ?_); rintro e w1 ⟨rfl, hb⟩; replace HBx := Lib.hid (pt HBx.out hb); clear hb)
    | (go_at_call 22; go_must (refine (HLe.out _ HBx.out).mono ?_); rintro e w3 ⟨rfl, hb⟩; replace HBx := Lib.hid (pt HBx.out hb); clear hb))
  go_loopw [5, 6] (fun ov iv wr => ∃ (i : Nat) (A' : Option Addr) (c' : Nat) (us : List Value), ov = .slice A' i c' ∧ iv = .int .i64 (i : Int) ∧ i ≤ xs.length ∧ wr.ownsRow w3.heap.size 58 6 (.slice A' i c') i us ∧ LotRow wr us ((xs.take i).map wideL) ∧ Below w3.heap.size w3 wr) (fun _ iv _ => xs.length - (intOf iv).toNat)
  case atStart => exact ⟨0, none, 0, [], rfl, rfl, Nat.zero_le _, World.ownsRow_nil _ _ _ _, LotRow.nil, pr⟩
  case round =>
    obtain ⟨i, A', c', us, rfl, rfl, hi, hown, hrow, hq⟩ := hrel
    have HQ := Lib.hid hq
    have HQw := Lib.hid (show Below w.heap.size w wr from pt HBx.out hq)
    have n0 : (0 : Int) ≤ (i : Int) := by omega
    by_cases hlt : i < xs.length
    · obtain ⟨b, off, hA, hbB, hct⟩ := (HR.out.below HQw.out).at_ hlt
      subst hA
      obtain ⟨t0, A3, c3, t1, tr, tc, t2, t3, t4, t5⟩ := hct i hlt
      have hBr : w.heap.size ≤ wr.heap.size := HQw.out.size
      have hbw : b < wr.heap.size := Nat.lt_of_lt_of_le hbB hBr
      have n1 : (i : Int) < (xs.length : Int) := by omega
      have hstep := Lib.hid (show (xs.take (i + 1)).map wideL = (xs.take i).map wideL ++ [wideL (xs.getD i default)] by
        have e : xs.getD i default = xs[i] := by simp [List.getD, hlt]
        rw [List.take_succ_eq_append_getElem hlt, List.map_append, e]
        rfl)
      have hsh := HShort.out i hlt
      have hE := HE.out i hlt
      generalize xs.getD i default = x at *
      obtain ⟨nm, M, x1, x2, x3, x4, rfl⟩ := lot_bytes x
      obtain ⟨s1, s2, s3⟩ := short_list hsh
      obtain ⟨_, _, ⟨g1, g2⟩, g3, g4⟩ := lotE_ok hE
      have hag := lot_again hE
      have hsm := small_lot (nm := nm) (M := M) (by omega) (by omega) (fun x hx => Nat.le_trans (s3 x hx) (by omega)) x1 x2 x3 x4
      have hfl := fmtL_len nm M x1 x2 x3 x4 (i64_small g1) (i64_small g2) (i64_small g3) (i64_small g4) s1 s2 s3
      have eM : (lotB (nm, M, x1, x2, x3, x4)).made.length = M.length := by simp [lotB]
      rw [eM] at t1 tc
      have u0 : wr.cell? ⟨b, off + i * 6, none⟩ = some (.string ⟨nm.toArray⟩) := t0
      have u1 : wr.cell? ⟨b, off + i * 6 + 1, none⟩ = some (.slice A3 M.length c3) := t1
      have u2 : wr.cell? ⟨b, off + i * 6 + 2, none⟩ = some (.int .i64 x1) := t2
      have u3_ : wr.cell? ⟨b, off + i * 6 + 3, none⟩ = some (.int .i64 x2) := t3
      have u4_ : wr.cell? ⟨b, off + i * 6 + 4, none⟩ = some (.int .i64 x3) := t4
      have u5_ : wr.cell? ⟨b, off + i * 6 + 5, none⟩ = some (.int .i64 x4) := t5
      have HCt := Lib.hid (fun W (hW : Below wr.heap.size wr W) => And.intro (((bcell hW).1 b _ hbw).trans u0) (And.intro (((bcell hW).1 b _ hbw).trans u1) (And.intro (((bcell hW).1 b _ hbw).trans u2) (And.intro (((bcell hW).1 b _ hbw).trans u3_) (And.intro (((bcell hW).1 b _ hbw).trans u4_) (((bcell hW).1 b _ hbw).trans u5_))))))
      have HTr := Lib.hid (fun W (hW : Below wr.heap.size wr W) => (show TxtIn W A3 M from cells_of_row ((RowIn.more tr hBr).below hW |>.more hW.size)))
      have HCo := Lib.hid (show ∀ A3 c3 W, TxtIn W A3 M → Calls Tryz.prog 25 #[.agg #[.string ⟨nm.toArray⟩, .slice A3 M.length c3, .int .i64 x1, .int .i64 x2, .int .i64 x3, .int .i64 x4]] W fun e w'' => ∃ A c, e = .returned (.agg #[.string ⟨nm.toArray⟩, .slice A M.length c, .int .i64 x1, .int .i64 x2, .int .i64 x3, .int .i64 x4]) ∧ MadeRow w'' A M ∧ M.length ≤ c ∧ Below W.heap.size W w'' from fun A3 c3 W h => (copyLot_any W.heap.size (lotB (nm, M, x1, x2, x3, x4)) A3 M.length c3 W (by simp [lotB]) (rowIn_of_cells h) (Nat.le_refl _) hsm).mono fun e w'' ⟨A2, c2, q1, q2, q3, q4⟩ => ⟨A2, c2, by rw [q1]; simp [lotB], ⟨q2⟩, by simpa [lotB] using q3, q4⟩)
      have HF := Lib.hid (fun A2 c2 W hS' (h : TxtIn W A2 M) (hc : M.length ≤ c2) => formatLot_core W.heap.size nm M A2 M.length c2 x1 x2 x3 x4 W hS' rfl h (Nat.le_refl _) hc (by omega) (by omega) (fun x hx => Nat.le_trans (s3 x hx) (by omega)) (i64_small g1) (i64_small g2) (i64_small g3) (i64_small g4))
      have hP := fun W hS' => ParseLot_any (fmtL nm M x1 x2 x3 x4) hfl W hS'
      rw [hag] at hP
      have HP := Lib.hid (show ∀ W, StrIn W → Calls Tryz.prog 23 #[.string ⟨(fmtL nm M x1 x2 x3 x4).toArray⟩] W fun e w'' => ∃ A c, e = .returned (.tuple #[.agg #[.string ⟨nm.toArray⟩, .slice A M.length c, .int .i64 x1, .int .i64 x2, .int .i64 x3, .int .i64 x4], .int .i64 0]) ∧ M.length ≤ c ∧ TxtIn w'' A M ∧ Below W.heap.size W w'' from hP)
      have HSa := Lib.hid (fun A1 A2 c1 c2 W (q1 : TxtIn W A1 M) (q2 : TxtIn W A2 M) => refSameLot_any nm M x1 x2 x3 x4 A1 A2 c1 c2 W q1 q2 (by omega))
      have HOwn := Lib.hid hown
      have HRow := Lib.hid hrow
      have HS2 := Lib.hid (fun W (hW : Below wr.heap.size wr W) => HSt.out W (pt HQw.out hW))
      generalize fmtL nm M x1 x2 x3 x4 = S at *
      clear hct hown hrow hq t0 t1 t2 t3 t4 t5 tr hP hag hfl g1 g2 g3 g4 s1 s3 hsm hsh hE
      go_wp2_with (first
        | (go_at_call 25; (with_reducible refine (HCo.out _ _ _ (HTr.out _ (pr))).mono ?_); rintro e w1_ ⟨A4, c4, rfl, hr4, hc4, h1_⟩; have S_1 := pt (pr) h1_; clear h1_; have RC_1 : MadeRow w1_ A4 M := hr4; clear hr4)
        | (go_at_call 24; (with_reducible refine (HF.out _ _ _ (HS2.out _ (S_1)) (RC_1).txt hc4).mono ?_); rintro e w2_ ⟨rfl, h2_⟩; have RC_2 : MadeRow w2_ A4 M := (RC_1).past h2_; have S_2 := pt (S_1) h2_; clear RC_1 S_1; clear h2_)
        | (go_at_call 23; (with_reducible refine (HP.out _ (HS2.out _ (S_2))).mono ?_); rintro e w3_ ⟨A5, c5, rfl, hc5, hr5, h3_⟩; have S_3 := pt (S_2) h3_; clear S_2; clear h3_; have RA_3 : TxtIn w3_ A5 M := hr5; clear hr5))
      obtain ⟨v0, v1, v2, v3, v4, v5⟩ := HCt.out _ (S_3)
      have hb3 : b < w3_.heap.size := Nat.lt_of_lt_of_le hbw (S_3).size
      have hb4 : b < w3_.heap.size + 1 := by omega
      refine region_below 10 follows_mixed (by kernel_rfl) ?_
      intro C hC
      simp only [List.take_succ_cons, List.take_zero, List.drop_succ_cons, List.drop_zero]
      repeat (first
        | ((with_reducible refine quiet_plain rfl (fun K hK => ?_)); (focus (apply quiet_val; (focus (intro w' hw; obtain ⟨hcq, hfq⟩ := bcell ((hC.out _).1 hw); go_simp; (first | done | rfl | (with_reducible exact call_below hC hw (HSa.out _ _ _ _ _ ((TxtIn.alloc RA_3).past ((hC.out _).1 hw)) (HTr.out _ (pt (pa (S_3)) ((hC.out _).1 hw)))))))); (simp only [Act.put, List.setIfInBounds_toArray, List.set_cons_succ, List.set_cons_zero]); (with_reducible refine hK _ ?_); clear hK K)))
        | ((with_reducible refine quiet_skip ?_ ?_); (focus (first | (simp [Region.wanted, yielded]; done) | (simp [Region.wanted, yielded, undef]; done))); simp only [Act.put, List.setIfInBounds_toArray, List.set_cons_succ, List.set_cons_zero])
        | ((with_reducible refine quiet_go ?_ (fun K hK => ?_)); (focus (first | (simp [Region.wanted, yielded]; done) | (simp [Region.wanted, yielded, undef]; done))); (focus (apply quiet_val; (focus (intro w' hw; obtain ⟨hcq, hfq⟩ := bcell ((hC.out _).1 hw); go_simp; (first | done | rfl | (with_reducible exact call_below hC hw (HSa.out _ _ _ _ _ ((TxtIn.alloc RA_3).past ((hC.out _).1 hw)) (HTr.out _ (pt (pa (S_3)) ((hC.out _).1 hw)))))))); (simp only [Act.put, List.setIfInBounds_toArray, List.set_cons_succ, List.set_cons_zero]); (with_reducible refine hK _ ?_); clear hK K))))
      refine wpQuiet_nil ?_
      intro w1 hb1
      replace hb1 := (hC.out _).1 hb1
      clear hC C
      obtain ⟨hc1, hf1⟩ := bcell hb1
      have X_4 : Blk w1 (w3_.heap.size) 58 #[.string ⟨nm.toArray⟩, .slice A5 M.length c5, .int .i64 x1, .int .i64 x2, .int .i64 x3, .int .i64 x4] := (Blk.newAt (by simp)).past hb1
      have ge_X : wr.heap.size ≤ w3_.heap.size := (by have := (S_3).size; omega)
      have RA_4 : TxtIn w1 A5 M := (RA_3.alloc).past hb1
      have S_4 := pt (pa (S_3)) hb1
      clear RA_3 S_3
      have Xc0 := X_4.cellAt 0 rfl
      have Xc1 := X_4.cellAt 1 rfl
      have Xc2 := X_4.cellAt 2 rfl
      have Xc3 := X_4.cellAt 3 rfl
      have Xc4 := X_4.cellAt 4 rfl
      have Xc5 := X_4.cellAt 5 rfl
      have Xl := X_4.lt
      clear hb1 hc1 hf1
      obtain ⟨w4_, rfl⟩ : ∃ v, v = w1 := ⟨_, rfl⟩
      clear v0 v1 v2 v3 v4 v5
      go_wp2_with (first
        | ((with_reducible refine load_sub (T := 58) (x := .tmp 7) (o := 0) (vs := #[.string ⟨nm.toArray⟩, .slice A5 M.length c5, .int .i64 x1, .int .i64 x2, .int .i64 x3, .int .i64 x4]) (show Blk _ (w3_.heap.size) 58 #[.string ⟨nm.toArray⟩, .slice A5 M.length c5, .int .i64 x1, .int .i64 x2, .int .i64 x3, .int .i64 x4] from (X_4)) ?_ ?_ Tryz.underlying58 ?_ ?_ ?_); (focus rfl); (focus rfl); (focus rfl); (focus exact lot_size6))
        | (go_at_call 25; (with_reducible refine (HCo.out _ _ _ (RA_4)).mono ?_); rintro e w5_ ⟨A6, c6, rfl, hr6, hc6, h5_⟩; have X_5 : Blk w5_ (w3_.heap.size) 58 #[.string ⟨nm.toArray⟩, .slice A5 M.length c5, .int .i64 x1, .int .i64 x2, .int .i64 x3, .int .i64 x4] := (X_4).past h5_; have RA_5 : TxtIn w5_ A5 M := (RA_4).past h5_; have S_5 := pt (S_4) h5_; clear X_4 RA_4 S_4 Xc0 Xc1 Xc2 Xc3 Xc4 Xc5 Xl; clear h5_; have RB_5 : MadeRow w5_ A6 M := hr6; clear hr6)
        | ((with_reducible refine store_sub (T := 58) (x := .tmp 7) (y := .tmp 65) (o := 0) (cs' := #[.string ⟨nm.toArray⟩, .slice A6 M.length c6, .int .i64 x1, .int .i64 x2, .int .i64 x3, .int .i64 x4]) (vs := #[.string ⟨nm.toArray⟩, .slice A6 M.length c6, .int .i64 x1, .int .i64 x2, .int .i64 x3, .int .i64 x4]) (show Blk _ (w3_.heap.size) 58 #[.string ⟨nm.toArray⟩, .slice A5 M.length c5, .int .i64 x1, .int .i64 x2, .int .i64 x3, .int .i64 x4] from (X_5)) ?_ ?_ ?_ ?_ ?_ ?_ ?_); (focus rfl); (focus rfl); (focus rfl); (focus exact Nat.le_of_ble_eq_true rfl); (focus exact lot_size6); (focus (simp [Value.oneCell']; done)); intro w6_ b6_ h6_; have X_6 : Blk w6_ (w3_.heap.size) 58 #[.string ⟨nm.toArray⟩, .slice A6 M.length c6, .int .i64 x1, .int .i64 x2, .int .i64 x3, .int .i64 x4] := b6_; have RB_6 : MadeRow w6_ A6 M := (RB_5).put h6_ (X_5); have S_6 := pp (S_5) h6_ ge_X; clear X_5 RB_5 S_5; clear h6_ b6_)
        | ((with_reducible refine store_sub (T := 29) (x := .tmp 67) (y := .tmp 66) (o := 4) (cs' := #[.string ⟨nm.toArray⟩, .slice A6 M.length c6, .int .i64 x1, .int .i64 x2, .int .i64 (-1000000), .int .i64 1000000]) (vs := #[.int .i64 (-1000000), .int .i64 1000000]) (show Blk _ (w3_.heap.size) 58 #[.string ⟨nm.toArray⟩, .slice A6 M.length c6, .int .i64 x1, .int .i64 x2, .int .i64 x3, .int .i64 x4] from (X_6)) ?_ ?_ ?_ ?_ ?_ ?_ ?_); (focus rfl); (focus rfl); (focus rfl); (focus exact Nat.le_of_ble_eq_true rfl); (focus exact range_size2); (focus (simp [Value.oneCell']; done)); intro w7_ b7_ h7_; have X_7 : Blk w7_ (w3_.heap.size) 58 #[.string ⟨nm.toArray⟩, .slice A6 M.length c6, .int .i64 x1, .int .i64 x2, .int .i64 (-1000000), .int .i64 1000000] := b7_; have RB_7 : MadeRow w7_ A6 M := (RB_6).put h7_ (X_6); have S_7 := pp (S_6) h7_ ge_X; clear X_6 RB_6 S_6; have Xc0 := X_7.cellAt 0 rfl; have Xc1 := X_7.cellAt 1 rfl; have Xc2 := X_7.cellAt 2 rfl; have Xc3 := X_7.cellAt 3 rfl; have Xc4 := X_7.cellAt 4 rfl; have Xc5 := X_7.cellAt 5 rfl; have Xl := X_7.lt; clear h7_ b7_; have HO1 := Lib.hid ((own_past HOwn.out (S_7)).alloc (.cells #[.string ⟨nm.toArray⟩, .slice A6 M.length c6, .int .i64 x1, .int .i64 x2, .int .i64 (-1000000), .int .i64 1000000] 58)); have HC := Lib.hid (cellsIn_block w7_ 58 #[.string ⟨nm.toArray⟩, .slice A6 M.length c6, .int .i64 x1, .int .i64 x2, .int .i64 (-1000000), .int .i64 1000000]); have hzz := (pt HQ.out (S_7)).size)
        | (at_builtin; go_must (refine wpList_append_cells _ rfl (.tmp 68) (.tmp 70) _ rfl w3.heap.size 58 i0 _ 6 72 Tryz.underlying53 hi0 hz0 hz1 hz2 rfl (by omega) _ i us rfl HO1.out (w7_.heap.size + 1) (some ⟨w7_.heap.size, 0, none⟩) 1 1 _ rfl HC.out rfl (by simp [Value.oneCell']) (by simp only [maxLen]; omega) (by omega) (by simp; omega) ?_); intro v9 w9 hown9 hg9 hat9; obtain ⟨A9, c9, rfl, hc9, hm9⟩ := own_form hown9))
      have HB9 := Lib.hid (show Below w3.heap.size w3 w9 from pg (pa (pt HQ.out (S_7))) HO1.out (Nat.le_refl _) hg9)
      have hsn := ((HRow.out.same (TextRow.kept_below (S_7))).snoc (x := wideL (lotB (nm, M, x1, x2, x3, x4))) (A := A6) (c := c6) RB_7.row (by simpa [wideL, lotB] using hc6))
      have eW : (wideL (lotB (nm, M, x1, x2, x3, x4))).made.length = M.length := by simp [wideL, lotB]
      rw [eW] at hsn
      have HRow9 := Lib.hid ((hsn.same (TextRow.kept_below (pa pr))).same (TextRow.kept_rows HO1.out (by decide) hg9))
      have HOwn9 := Lib.hid hown9
      clear hown9 hg9 hat9 hsn
      go_roundw
      case rel => exact ⟨i + 1, A9, c9, _, rfl, by go_num, by omega, HOwn9.out, by rw [hstep.out]; exact HRow9.out, HB9.out⟩
      case measure => simp [intOf]; omega
    · obtain rfl : i = xs.length := by omega
      have hT : (xs.take xs.length).map wideL = xs.map wideL := by rw [List.take_length]
      rw [hT] at hrow
      obtain ⟨g, cur, rfl, hg3, hG, hul, hcu⟩ := own_lots_blk hown h0
      have hlots := hrow.lots hown
      have hk := mod_lt at_ h0
      have hK := HK.out _ hk
      have HMd := Lib.hid (fun W => baseMod_any at_ xs.length W h0 (by omega))
      generalize modV at_ xs.length = k at *
      obtain ⟨p1, p2, p3, p4, p5, p6, p7⟩ := hK
      have hw := wide_same xs
      have hm := mark_same xs k
      have HCw := Lib.hid (copyLots_of (L := xs.map wideL) (n := xs.length) hw.1 (small_same hw HS.out))
      have hS1 := susp_of (L := xs.map wideL) (n := xs.length) hw.1 (small_same hw HS.out) p1
      rw [p2] at hS1
      have HS1 := Lib.hid (show ∀ W A c, LotsIn W.heap.size W A (xs.map wideL) → Calls Tryz.prog 27 #[.slice A xs.length c] W fun e w' => ∃ A2 c2, e = .returned (.tuple #[.slice A2 0 c2, .int .i64 0]) ∧ StrRow w' A2 [] ∧ Below W.heap.size W w' from hS1)
      have HCm := Lib.hid (copyLots_of (L := markL xs k) (n := xs.length) hm.1 (small_same hm HS.out))
      have hS2 := susp_of (L := markL xs k) (n := xs.length) hm.1 (small_same hm HS.out) p3
      have hnb := nameB_at H3.out hk
      have hmk : k < (markL xs k).length := by rw [hm.1]; exact hk
      have hme := memberE_at p3 hmk
      rw [(hm.2 k).1] at hme
      have hPm := prod_of (L := markL xs k) (n := xs.length) hm.1 (small_same hm HS.out) (nameB_size hnb) hme
      have hPx := prod_of (L := xs) (n := xs.length) rfl HS.out (nameB_size hnb) (memberE_at H3.out hk)
      have HCx := Lib.hid (copyLots_of (L := xs) (n := xs.length) rfl HS.out)
      rw [← p4] at hPx
      rw [p5] at hS2
      have hpl : (prodV (markL xs k) (nameAt xs k)).length ≤ 12 := by
        have q : (prodV (markL xs k) (nameAt xs k)).length ≤ (markL xs k).length := namesV_le _ _
        rw [hm.1] at q
        exact Nat.le_trans q h1
      obtain ⟨b0, off0, hA0, hb0, hct0⟩ := HR.out.at_ hk
      subst hA0
      have hn0 := (hct0 k hk).1
      have HNc := Lib.hid (show ∀ W, Below w.heap.size w W → W.cell? ⟨b0, off0 + k * 6, none⟩ = some (.string (nameAt xs k)) ∧ b0 < W.heap.size from fun W hW => ⟨((bcell hW).1 b0 _ hb0).trans hn0, Nat.lt_of_lt_of_le hb0 hW.size⟩)
      generalize hPP : prodV (markL xs k) (nameAt xs k) = PP at *
      generalize hSS : suspectsV (markL xs k) = SS at *
      generalize nameAt xs k = z at *
      have HPm := Lib.hid hPm
      have HPx := Lib.hid hPx
      have HS2 := Lib.hid hS2
      obtain ⟨_, _, _, _, _, _, q4, q5, q6, q7⟩ := hrow.2 k (by simpa using hk)
      have e2 := (hcu (k * 6 + 2) (by omega)).trans q4
      have e3 := (hcu (k * 6 + 3) (by omega)).trans q5
      have e4 := (hcu (k * 6 + 4) (by omega)).trans q6
      have e5 := (hcu (k * 6 + 5) (by omega)).trans q7
      have HUl := Lib.hid hul
      have HCu := Lib.hid hcu
      have P5 := Lib.hid p5
      have P6 := Lib.hid p6
      have P7 := Lib.hid p7
      have hgw : w.heap.size ≤ g := Nat.le_trans HBx.out.size hg3
      have k0 : (0 : Int) ≤ (k : Int) := by omega
      have k1 : (k : Int) < (xs.length : Int) := by omega
      clear hPm hPx hS2 hS1 hown hul hcu p1 p2 p3 p4 p5 p6 p7 hw hm hnb hmk hme hn0 hct0 hPP hSS hq q4 q5 q6 q7 HS HK HE HShort hT hlt
      go_upto_region 20 with (first
        | (go_at_call 28; (with_reducible refine (HCw.out _ _ _ (hlots)).mono ?_); rintro e w1_ ⟨A2, c2, rfl, hl2, h1_⟩; have RL_1 : LotsIn w1_.heap.size w1_ (some ⟨g, 0, none⟩) (xs.map wideL) := (hlots).past h1_; have BG_1 : Blk w1_ g 58 cur := (hG).past h1_; have LR_1 : LotRow w1_ us (xs.map wideL) := (hrow).past h1_; have S_1 := pt (pr) h1_; clear h1_; have R2_1 : LotsIn w1_.heap.size w1_ A2 (xs.map wideL) := hl2)
        | (go_at_call 27; (with_reducible refine (HS1.out _ _ _ (R2_1)).mono ?_); rintro e w2_ ⟨A3, c3, rfl, hr3, h2_⟩; have RL_2 : LotsIn w2_.heap.size w2_ (some ⟨g, 0, none⟩) (xs.map wideL) := (RL_1).past h2_; have BG_2 : Blk w2_ g 58 cur := (BG_1).past h2_; have LR_2 : LotRow w2_ us (xs.map wideL) := (LR_1).past h2_; have R2_2 : LotsIn w2_.heap.size w2_ A2 (xs.map wideL) := (R2_1).past h2_; have S_2 := pt (S_1) h2_; clear RL_1 BG_1 LR_1 R2_1 S_1; clear h2_; have m2 := BG_2.cellAt (k * 6 + 2) e2; have f2 := BG_2.frozen (k * 6 + 2); have m3 := BG_2.cellAt (k * 6 + 3) e3; have f3 := BG_2.frozen (k * 6 + 3); have m4 := BG_2.cellAt (k * 6 + 4) e4; have f4 := BG_2.frozen (k * 6 + 4); have m5 := BG_2.cellAt (k * 6 + 5) e5; have f5 := BG_2.frozen (k * 6 + 5); have gl := BG_2.lt; clear hr3)
        | (go_at_call 14; (with_reducible refine (HMd.out _).mono ?_); rintro e w' ⟨rfl, rfl⟩))
      go_cut [] (fun wx => LotsIn wx.heap.size wx (some ⟨g, 0, none⟩) (markL xs k) ∧ Below w.heap.size w wx)
      case first =>
        go_wp2
        go_meet
        case rel => exact ⟨mark_lots BG_2 LR_2 HUl.out HCu.out hk, ps (ps (ps (ps (pt HQw.out (S_2)) hgw) hgw) hgw) hgw⟩
      case rest =>
        obtain ⟨hml, hwk⟩ := hcut
        obtain ⟨wk, rfl⟩ : ∃ v, v = wc := ⟨_, rfl⟩
        have HML := Lib.hid (show ∀ W, Below wk.heap.size wk W → LotsIn W.heap.size W (some ⟨g, 0, none⟩) (markL xs k) from fun W hW => LotsIn.past hml hW)
        have HN1 := Lib.hid (show ∀ W, Hid (Below wk.heap.size wk W) → Hid (Below wk.heap.size wk W) ∧ W.cell? ⟨b0, off0 + k * 6, none⟩ = some (.string z) from fun W hW => ⟨hW, (HNc.out W (pt hwk hW.out)).1⟩)
        have bl0 := (HNc.out _ (hwk)).2
        have nm0 := (HNc.out _ (hwk)).1
        go_wp2
        go_cut [12, 13] (fun pv ev wx => ∃ A5 c5, pv = .slice A5 PP.length c5 ∧ ev = .int .i64 0 ∧ StrRow wx A5 PP ∧ Below wk.heap.size wk wx)
        case first =>
          go_region_held3 (fun w' => Hid (Below wk.heap.size wk w') ∧ w'.cell? ⟨b0, off0 + k * 6, none⟩ = some (.string z)) ((refine HN1.out _ (Lib.hid ?_); repeat (first | assumption | (with_reducible exact pr) | (with_reducible refine pd ?_) | (with_reducible refine pa ?_) | (with_reducible refine pt ?_ (by assumption)))))
            (first | (go_at_call 28; (with_reducible refine (HCm.out _ _ _ (HML.out _ (by repeat (first | assumption | (with_reducible exact pr) | (with_reducible refine pd ?_) | (with_reducible refine pa ?_) | (with_reducible refine pt ?_ (by assumption)))))).mono ?_); rintro e w1_ ⟨A2, c2, rfl, hl2, hb1⟩) | (go_at_call 29; (with_reducible refine (HPm.out _ _ _ (by first | exact hl2 | exact LotsIn.past hl2 (pd pr) | exact LotsIn.past hl2 (pd (pd pr)))).mono ?_); rintro e w2_ ⟨A5, c5, rfl, hr5, hb2⟩))
          all_goals
            go_wp2
            go_meet
            case rel => exact ⟨A5, c5, rfl, rfl, (by first | exact hr5 | exact hr5.past (pd pr) | exact hr5.past (pd (pd pr))), (by repeat (first | assumption | (with_reducible exact pr) | (with_reducible refine pd ?_) | (with_reducible refine pa ?_) | (with_reducible refine pt ?_ (by assumption))))⟩
        case rest =>
          obtain ⟨A5, c5, rfl, rfl, hr5, hb5⟩ := hcut
          obtain ⟨wl, rfl⟩ : ∃ v, v = wc := ⟨_, rfl⟩
          have hwl := pt hwk hb5
          have hml2 := LotsIn.past hml hb5
          clear HN1 HML bl0 nm0 hml
          have HXL := Lib.hid (show ∀ W, Below wl.heap.size wl W → LotsIn W.heap.size W (some ⟨b0, off0, none⟩) xs from fun W hW => (HR.out.below (pt hwl hW)).more (pt hwl hW).size)
          have HN1 := Lib.hid (show ∀ W, Hid (Below wl.heap.size wl W) → Hid (Below wl.heap.size wl W) ∧ W.cell? ⟨b0, off0 + k * 6, none⟩ = some (.string z) from fun W hW => ⟨hW, (HNc.out W (pt hwl hW.out)).1⟩)
          have bl0 := (HNc.out _ (hwl)).2
          have nm0 := (HNc.out _ (hwl)).1
          go_wp2
          go_cut [14, 15] (fun pv ev wx => ∃ A5 c5, pv = .slice A5 PP.length c5 ∧ ev = .int .i64 0 ∧ StrRow wx A5 PP ∧ Below wl.heap.size wl wx)
          case first =>
            go_region_held3 (fun w' => Hid (Below wl.heap.size wl w') ∧ w'.cell? ⟨b0, off0 + k * 6, none⟩ = some (.string z)) ((refine HN1.out _ (Lib.hid ?_); repeat (first | assumption | (with_reducible exact pr) | (with_reducible refine pd ?_) | (with_reducible refine pa ?_) | (with_reducible refine pt ?_ (by assumption)))))
              (first | (go_at_call 28; (with_reducible refine (HCx.out _ _ _ (HXL.out _ (by repeat (first | assumption | (with_reducible exact pr) | (with_reducible refine pd ?_) | (with_reducible refine pa ?_) | (with_reducible refine pt ?_ (by assumption)))))).mono ?_); rintro e w1_ ⟨A2, c2, rfl, hl2, hb1⟩) | (go_at_call 29; (with_reducible refine (HPx.out _ _ _ (by first | exact hl2 | exact LotsIn.past hl2 (pd pr) | exact LotsIn.past hl2 (pd (pd pr)))).mono ?_); rintro e w2_ ⟨A5, c5, rfl, hr5, hb2⟩))
            all_goals
              go_wp2
              go_meet
              case rel => exact ⟨A5, c5, rfl, rfl, (by first | exact hr5 | exact hr5.past (pd pr) | exact hr5.past (pd (pd pr))), (by repeat (first | assumption | (with_reducible exact pr) | (with_reducible refine pd ?_) | (with_reducible refine pa ?_) | (with_reducible refine pt ?_ (by assumption))))⟩
          case rest =>
            obtain ⟨A6, c6, rfl, rfl, hr6, hb6⟩ := hcut
            obtain ⟨wn, rfl⟩ : ∃ v, v = wc := ⟨_, rfl⟩
            have hwn := pt hwl hb6
            have hml3 := LotsIn.past hml2 hb6
            have hr5n := hr5.past hb6
            clear HN1 HXL bl0 nm0 hml2 hr5
            have HTx := Lib.hid (show ∀ A5 A6 c5 c6 W, StrRow W A5 PP → StrRow W A6 PP → Calls Tryz.prog 30 #[.slice A5 PP.length c5, .slice A6 PP.length c6] W fun e w' => e = .returned (.bool true) ∧ Below W.heap.size W w' from fun A5 A6 c5 c6 W h1 h2 => (texts_any W.heap.size A5 A6 c5 c6 PP PP W h1 h2 (by omega)).mono fun e w' h => ⟨by rw [h.1]; simp [textsB], h.2⟩)
            have HHt := Lib.hid (show ∀ A7 c7 y W, StrRow W A7 SS → y ∈ SS → Calls Tryz.prog 31 #[.slice A7 (PP.length + 1) c7, .string y] W fun e w' => e = .returned (.bool true) ∧ Below W.heap.size W w' from fun A7 c7 y W h1 h2 => (baseHasText_any W.heap.size A7 (PP.length + 1) c7 SS y W h1 P5.out (by omega)).mono fun e w' h => ⟨by rw [h.1, (hasT_mem).2 h2], by rw [← h.2]; exact pr⟩)
            have pl1 : IntKind.i64.wrap ((PP.length : Int) + 1) = (PP.length : Int) + 1 := IntWalk.i64_in _ (by omega)
            go_wp2_with (first
              | (go_at_call 28; (with_reducible refine (HCm.out _ _ _ (hml3)).mono ?_); rintro e w1_ ⟨A2, c2, rfl, hl2, h1_⟩; have RM_1 : LotsIn w1_.heap.size w1_ (some ⟨g, 0, none⟩) (markL xs k) := (hml3).past h1_; have RP_1 : StrRow w1_ A5 PP := (hr5n).past h1_; have RQ_1 : StrRow w1_ A6 PP := (hr6).past h1_; have S_1 := pt (pr) h1_; clear h1_; have R2_1 : LotsIn w1_.heap.size w1_ A2 (markL xs k) := hl2)
              | (go_at_call 27; (with_reducible refine (HS2.out _ _ _ (R2_1)).mono ?_); rintro e w2_ ⟨A7, c7, rfl, hr7, h2_⟩; have RM_2 : LotsIn w2_.heap.size w2_ (some ⟨g, 0, none⟩) (markL xs k) := (RM_1).past h2_; have RP_2 : StrRow w2_ A5 PP := (RP_1).past h2_; have RQ_2 : StrRow w2_ A6 PP := (RQ_1).past h2_; have R2_2 : LotsIn w2_.heap.size w2_ A2 (markL xs k) := (R2_1).past h2_; have S_2 := pt (S_1) h2_; clear RM_1 RP_1 RQ_1 R2_1 S_1; clear h2_; have RS_2 : StrRow w2_ A7 SS := hr7)
              | (go_at_call 30; (with_reducible refine (HTx.out _ _ _ _ _ (RP_2) (RQ_2)).mono ?_); rintro e w3_ ⟨rfl, h3_⟩; have RP_3 : StrRow w3_ A5 PP := (RP_2).past h3_; have RQ_3 : StrRow w3_ A6 PP := (RQ_2).past h3_; have RS_3 : StrRow w3_ A7 SS := (RS_2).past h3_; have S_3 := pt (S_2) h3_; clear RP_2 RQ_2 RS_2 S_2; clear h3_; have nm1 := (HNc.out _ (pt hwn (S_3))).1; have bl1 := (HNc.out _ (pt hwn (S_3))).2)
              | (go_at_call 31; (with_reducible refine (HHt.out _ _ _ _ (RS_3) P6.out).mono ?_); rintro e w4_ ⟨rfl, h4_⟩; have RP_4 : StrRow w4_ A5 PP := (RP_3).past h4_; have RQ_4 : StrRow w4_ A6 PP := (RQ_3).past h4_; have RS_4 : StrRow w4_ A7 SS := (RS_3).past h4_; have S_4 := pt (S_3) h4_; clear RP_3 RQ_3 RS_3 S_3; clear h4_))
            have HRS := Lib.hid RS_4
            have HRP := Lib.hid RP_4
            have HWn := Lib.hid (pt hwn (S_4))
            go_loopw [16] (fun iv wr => ∃ j : Nat, iv = .int .i64 (j : Int) ∧ j ≤ PP.length ∧ Below w4_.heap.size w4_ wr) (fun iv _ => PP.length - (intOf iv).toNat)
            case atStart => exact ⟨0, rfl, Nat.zero_le _, pr⟩
            case round =>
              obtain ⟨j, rfl, hj, hqj⟩ := hrel
              have HQj := Lib.hid hqj
              have j0 : (0 : Int) ≤ (j : Int) := by omega
              clear hqj
              by_cases hlj : j < PP.length
              · have j1 : (j : Int) < (PP.length : Int) := by omega
                obtain ⟨b8, off8, hA8, hb8, hc8⟩ := RowIn.at_ (StrRow.past HRP.out HQj.out) hlj
                subst hA8
                have s8 := hc8 j hlj
                have hy : PP.getD j default ∈ SS := P7.out _ (by rw [List.getD_eq_getElem?_getD, List.getElem?_eq_getElem hlj]; exact List.getElem_mem hlj)
                generalize PP.getD j default = y at *
                have HHy := Lib.hid (HHt.out A7 c7 y _ (StrRow.past HRS.out HQj.out) hy)
                have e1_ : IntKind.i64.wrap ((j : Int) + 1) = (j : Int) + 1 := IntWalk.i64_in _ (by omega)
                clear hc8 hy
                go_wp2_with (go_at_call 31; (with_reducible refine HHy.out.mono ?_); rintro e w8 ⟨rfl, hb8_⟩; have HQ8 := Lib.hid (pt HQj.out hb8_))
                go_roundw
                case rel => exact ⟨j + 1, by go_num, by omega, HQ8.out⟩
                case measure => simp [intOf]; omega
              · go_wp2
                go_ret
                exact ⟨rfl, pt HWn.out HQj.out⟩

theorem toplots_any (A : Option Addr) (c : Nat) (xs : List Lot) (at_ : Int) (w : World) (hS : StrIn w) (hr : LotsIn w.heap.size w A xs) (hcap : xs.length ≤ c) :
    Calls Tryz.prog 4 #[.slice A xs.length c, .int .i64 at_] w fun e w' => e = .returned (.bool true) ∧ Below w.heap.size w w' := by
  by_cases h0 : xs.length = 0
  · exact top_empty A c xs at_ w hS hr hcap h0
  · by_cases h1 : 12 < xs.length
    · exact top_many A c xs at_ w hS hr hcap h1
    · cases h2 : smallB xs with
      | false => exact top_long A c xs at_ w hS hr hcap (by omega) (by omega) h2
      | true =>
        by_cases h3 : (openLotsV xs).2 = 0
        · exact top_main A c xs at_ w hS hr hcap (by omega) (by omega) h2 h3
        · exact top_err A c xs at_ w hS hr hcap (by omega) (by omega) h2 h3

end Go.Proofs.YtbojmcopagbheaaGreatDoor
