/- Contracts: the specification's CopyLot and CopyLots: lots in memory of their own. Lengths at most 1000. -/
import Derived.Test.YtbojmcopagbheaaGreatDoorT1Texts
namespace Go.Proofs.YtbojmcopagbheaaGreatDoor
open Go.RowKit

def lotC (x : Lot) (A : Option Addr) (c : Nat) : Array Value := #[.string x.name, .slice A x.made.length c, .int .i64 x.mlo, .int .i64 x.mhi, .int .i64 x.llo, .int .i64 x.lhi]
theorem blk_six {w : World} {g : Nat} {t : TypeId} {a0 a1 a2 a3 a4 a5 : Value} (h : Blk w g t #[a0, a1, a2, a3, a4, a5]) : w.cell? ⟨g, 0, none⟩ = some a0 ∧ w.cell? ⟨g, 1, none⟩ = some a1 ∧ w.cell? ⟨g, 2, none⟩ = some a2 ∧ w.cell? ⟨g, 3, none⟩ = some a3 ∧ w.cell? ⟨g, 4, none⟩ = some a4 ∧ w.cell? ⟨g, 5, none⟩ = some a5 :=
  ⟨h.cellAt 0 rfl, h.cellAt 1 rfl, h.cellAt 2 rfl, h.cellAt 3 rfl, h.cellAt 4 rfl, h.cellAt 5 rfl⟩
def LotRet (w : World) (x : Lot) (e : Ending) (w' : World) : Prop :=
  ∃ A c, e = .returned (.agg #[.string x.name, .slice A x.made.length c, .int .i64 x.mlo, .int .i64 x.mhi, .int .i64 x.llo, .int .i64 x.lhi]) ∧ TextRow w' A x.made ∧ x.made.length ≤ c ∧ Below w.heap.size w w'

set_option maxHeartbeats 4000000 in
set_option maxRecDepth 100000 in
theorem copyLot_any (B : Nat) (x : Lot) (A : Option Addr) (n c : Nat) (w : World) (hn : x.made.length = n) (hr : RowIn Value.string B w A x.made) (hB : B ≤ w.heap.size) (hs : SmallLot x) :
    Calls Tryz.prog 25 #[.agg #[.string x.name, .slice A n c, .int .i64 x.mlo, .int .i64 x.mhi, .int .i64 x.llo, .int .i64 x.lhi]] w (LotRet w x) := by
  obtain ⟨nm, xs, mlo, mhi, llo, lhi⟩ := x
  obtain ⟨hs1, hs2, hs3⟩ := hs
  dsimp only at *
  have HR := Lib.hid hr
  have hn2 : n ≤ 1000 := by omega
  have HN := Lib.hid hn
  clear hr hs3 hn
  go_enter Tryz.func25, Tryz.ntmps25
  go_wp2_with (go_at_call 66; go_must (refine (copyTexts_any B A n c xs _ (HR.out.below ((pa (pa pr)).mono hB)) HN.out (Nat.le_trans hB (pa (pa pr)).size) hn2).mono ?_); rintro e w1 ⟨A1, c1, rfl, hrow, hc1, hb1⟩; have HRow := Lib.hid hrow; clear hrow; have hz1 := hb1.size; simp only [World.size_alloc] at hz1; have k0 : Blk w1 w.heap.size 58 #[.string nm, .slice A n c, .int .i64 mlo, .int .i64 mhi, .int .i64 llo, .int .i64 lhi] := ((Blk.newAt rfl).alloc).past hb1; have k1 : Blk w1 (w.heap.size + 1) 58 #[.string ByteArray.empty, .slice none 0 0, .int .i64 0, .int .i64 0, .int .i64 0, .int .i64 0] := (Blk.newAt (by simp)).past hb1; obtain ⟨e0, e1, e2, e3, e4, e5⟩ := blk_six k0; have ef0 := k0.frozen 0; have ef1 := k0.frozen 1; have ef2 := k0.frozen 2; have ef3 := k0.frozen 3; have ef4 := k0.frozen 4; have ef5 := k0.frozen 5; obtain ⟨g0, g1, g2, g3, g4, g5⟩ := blk_six k1; have gf0 := k1.frozen 0; have gf1 := k1.frozen 1; have gf2 := k1.frozen 2; have gf3 := k1.frozen 3; have gf4 := k1.frozen 4; have gf5 := k1.frozen 5; have x0 := k0.lt; have x1 := k1.lt)
  obtain ⟨wF, hwF⟩ : ∃ wF : World, wF = ((((((w1.setCell ⟨w.heap.size, 1, none⟩ (.slice A1 xs.length c1)).setCell ⟨w.heap.size + 1, 0, none⟩ (.string nm)).setCell ⟨w.heap.size + 1, 1, none⟩ (.slice A1 xs.length c1)).setCell ⟨w.heap.size + 1, 2, none⟩ (.int .i64 mlo)).setCell ⟨w.heap.size + 1, 3, none⟩ (.int .i64 mhi)).setCell ⟨w.heap.size + 1, 4, none⟩ (.int .i64 llo)).setCell ⟨w.heap.size + 1, 5, none⟩ (.int .i64 lhi) := ⟨_, rfl⟩
  have kF : Blk wF (w.heap.size + 1) 58 #[.string nm, .slice A1 xs.length c1, .int .i64 mlo, .int .i64 mhi, .int .i64 llo, .int .i64 lhi] := by
    rw [hwF]
    exact (((((((k1.far (p := ⟨w.heap.size, 1, none⟩) (Nat.succ_ne_self _)).set_ 0 _).set_ 1 _).set_ 2 _).set_ 3 _).set_ 4 _).set_ 5 _)
  obtain ⟨i0, i1, i2, i3, i4, i5⟩ := blk_six kF
  rw [← hwF]
  refine bodyPost_ret (v := .agg #[.string nm, .slice A1 xs.length c1, .int .i64 mlo, .int .i64 mhi, .int .i64 llo, .int .i64 lhi]) (by simp [results, Tryz.results25, go_sem, i0, i1, i2, i3, i4, i5]) rfl ⟨A1, c1, rfl, HRow.out.same fun b cs fz ht => ?_, hc1, ?_⟩
  all_goals rw [hwF]
  · have n0 : b ≠ w.heap.size := fun e => by
      subst e
      unfold Blk at k0
      rw [k0] at ht
      injection ht with ht
      injection ht with _ ht
      exact absurd ht (by decide)
    have n1 : b ≠ w.heap.size + 1 := fun e => by
      subst e
      unfold Blk at k1
      rw [k1] at ht
      injection ht with ht
      injection ht with _ ht
      exact absurd ht (by decide)
    simp only [ne_eq, n0, n1, not_false_eq_true, Below.heap_setCell]
  · exact ps (ps (ps (ps (ps (ps (ps (pt (pa (pa pr)) hb1) (Nat.le_refl _)) (Nat.le_succ _)) (Nat.le_succ _)) (Nat.le_succ _)) (Nat.le_succ _)) (Nat.le_succ _)) (Nat.le_succ _)

end Go.Proofs.YtbojmcopagbheaaGreatDoor
