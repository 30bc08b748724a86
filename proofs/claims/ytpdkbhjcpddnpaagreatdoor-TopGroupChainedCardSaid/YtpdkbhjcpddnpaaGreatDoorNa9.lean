/- The walk of the law on groups that compose (TopGroupChained): it returns true. Printed by a program (gen_chain.py). -/
import Derived.Test.YtpdkbhjcpddnpaaGreatDoorND
import Derived.Test.YtpdkbhjcpddnpaaGreatDoorNN
import Derived.Test.YtpdkbhjcpddnpaaGreatDoorNQ
import Derived.Test.YtpdkbhjcpddnpaaGreatDoorNa5
import Derived.Test.YtpdkbhjcpddnpaaGreatDoorNX
import Derived.Deep.DeepCutAuto

section
namespace Go.Proofs.YtpdkbhjcpddnpaaGreatDoor
open Go.RowKit
attribute [local go_sem ↓] Go.wp_at_zero Go.wp_at_succ

/-- A ratio among the cells of the row of ratios. -/
def SqC (W : World) (S : Array Value) (k : Nat) (r : Rat) : Prop := ∃ (A : Option Addr) (c : Nat) (A2 : Option Addr) (c2 : Nat), S[k * 4]? = some (.int .i64 (signD r.num)) ∧ S[k * 4 + 1]? = some (.slice A (dl r.num) c) ∧ S[k * 4 + 2]? = some (.int .i64 (signD (r.den : Int))) ∧ S[k * 4 + 3]? = some (.slice A2 (dl (r.den : Int)) c2) ∧ RatAt W A c A2 c2 r
/-- Hours and ratios of the first i units. -/
structure ChSt (v : World) (n0 : Nat) (hr : Nat → Int) (sq : Nat → Rat) (i : Nat) (W : World) : Prop where
  h : ∃ cs, Blk W (n0 + 1) 50 cs ∧ cs.size = 4 ∧ ∀ k, k < i → cs[k]? = some (.int .i64 (hr k))
  s : ∃ cs, Blk W (n0 + 1 + 1) 56 cs ∧ cs.size = 16 ∧ ∀ k, k < i → SqC W cs k (sq k)
  bel : Below (n0 + 1) v W
  big : n0 + 1 + 1 < W.heap.size
theorem SqC.past {W W' : World} {S : Array Value} {k : Nat} {r : Rat} (h : SqC W S k r) (hb : Below W.heap.size W W') : SqC W' S k r := by
  obtain ⟨A, c, A2, c2, h0, h1, h2, h3, h4⟩ := h
  exact ⟨A, c, A2, c2, h0, h1, h2, h3, h4.past hb⟩
section
variable {v : World} {n0 : Nat} {hr : Nat → Int} {sq : Nat → Rat} {i : Nat} {W W' : World}
theorem ChSt.past (h : ChSt v n0 hr sq i W) (hb : Below W.heap.size W W') : ChSt v n0 hr sq i W' := by
  obtain ⟨⟨cs, h1, h2, h3⟩, ⟨ds, g1, g2, g3⟩, hB, hz⟩ := h
  exact ⟨⟨cs, h1.past hb, h2, h3⟩, ⟨ds, g1.past hb, g2, fun k hk => (g3 k hk).past hb⟩, hB.trans (hb.mono (by omega)), Nat.lt_of_lt_of_le hz hb.size⟩
set_option maxHeartbeats 8000000 in
theorem ChSt.step (h : ChSt v n0 hr sq i W) (hi : i < 4) {A : Option Addr} {c : Nat} {A2 : Option Addr} {c2 : Nat} (hR : RatAt W A c A2 c2 (sq i)) :
    ChSt v n0 hr sq (i + 1) (((((W.setCell ⟨n0 + 1, i, none⟩ (.int .i64 (hr i))).setCell ⟨n0 + 1 + 1, i * 4, none⟩ (.int .i64 (signD (sq i).num))).setCell ⟨n0 + 1 + 1, i * 4 + 1, none⟩ (.slice A (dl (sq i).num) c)).setCell ⟨n0 + 1 + 1, i * 4 + 2, none⟩ (.int .i64 (signD ((sq i).den : Int)))).setCell ⟨n0 + 1 + 1, i * 4 + 3, none⟩ (.slice A2 (dl ((sq i).den : Int)) c2)) := by
  obtain ⟨⟨cs, h1, h2, h3⟩, ⟨ds, g1, g2, g3⟩, hB, hz⟩ := h
  have ne : n0 + 1 + 1 ≠ n0 + 1 := by omega
  have a1 := h1.set_ i (.int .i64 (hr i))
  have b1 : Blk (W.setCell ⟨n0 + 1, i, none⟩ (.int .i64 (hr i))) (n0 + 1 + 1) 56 ds := g1.far ne
  have b2 := b1.set_ (i * 4) (.int .i64 (signD (sq i).num))
  have b3 := b2.set_ (i * 4 + 1) (.slice A (dl (sq i).num) c)
  have b4 := b3.set_ (i * 4 + 2) (.int .i64 (signD ((sq i).den : Int)))
  have b5 := b4.set_ (i * 4 + 3) (.slice A2 (dl ((sq i).den : Int)) c2)
  have far : ∀ {A' : Option Addr} {c' : Nat} {A2' : Option Addr} {c2' : Nat} {r' : Rat}, RatAt W A' c' A2' c2' r' → RatAt (((((W.setCell ⟨n0 + 1, i, none⟩ (.int .i64 (hr i))).setCell ⟨n0 + 1 + 1, i * 4, none⟩ (.int .i64 (signD (sq i).num))).setCell ⟨n0 + 1 + 1, i * 4 + 1, none⟩ (.slice A (dl (sq i).num) c)).setCell ⟨n0 + 1 + 1, i * 4 + 2, none⟩ (.int .i64 (signD ((sq i).den : Int)))).setCell ⟨n0 + 1 + 1, i * 4 + 3, none⟩ (.slice A2 (dl ((sq i).den : Int)) c2)) A' c' A2' c2' r' :=
    fun h => ((((h.far h1 (by decide)).far b1 (by decide)).far b2 (by decide)).far b3 (by decide)).far b4 (by decide)
  refine ⟨⟨_, ((((a1.far ne.symm).far ne.symm).far ne.symm).far ne.symm), by simp [h2], fun k hk => ?_⟩, ⟨_, b5, by simp [g2], fun k hk => ?_⟩, ?_, ?_⟩
  · by_cases e : k = i
    · subst e
      rw [Array.getElem?_setIfInBounds_self_of_lt (by omega)]
    · rw [Array.getElem?_setIfInBounds_ne (by omega)]
      exact h3 k (by omega)
  · by_cases e : k = i
    · subst e
      refine ⟨A, c, A2, c2, ?_, ?_, ?_, ?_, far hR⟩
      · rw [Array.getElem?_setIfInBounds_ne (by omega), Array.getElem?_setIfInBounds_ne (by omega), Array.getElem?_setIfInBounds_ne (by omega), Array.getElem?_setIfInBounds_self_of_lt (by omega)]
      · rw [Array.getElem?_setIfInBounds_ne (by omega), Array.getElem?_setIfInBounds_ne (by omega), Array.getElem?_setIfInBounds_self_of_lt (by simp; omega)]
      · rw [Array.getElem?_setIfInBounds_ne (by omega), Array.getElem?_setIfInBounds_self_of_lt (by simp; omega)]
      · rw [Array.getElem?_setIfInBounds_self_of_lt (by simp; omega)]
    · obtain ⟨A', c', A2', c2', h4, h5, h6, h7, h8⟩ := g3 k (by omega)
      refine ⟨A', c', A2', c2', ?_, ?_, ?_, ?_, far h8⟩
      · rw [Array.getElem?_setIfInBounds_ne (by omega), Array.getElem?_setIfInBounds_ne (by omega), Array.getElem?_setIfInBounds_ne (by omega), Array.getElem?_setIfInBounds_ne (by omega)]; exact h4
      · rw [Array.getElem?_setIfInBounds_ne (by omega), Array.getElem?_setIfInBounds_ne (by omega), Array.getElem?_setIfInBounds_ne (by omega), Array.getElem?_setIfInBounds_ne (by omega)]; exact h5
      · rw [Array.getElem?_setIfInBounds_ne (by omega), Array.getElem?_setIfInBounds_ne (by omega), Array.getElem?_setIfInBounds_ne (by omega), Array.getElem?_setIfInBounds_ne (by omega)]; exact h6
      · rw [Array.getElem?_setIfInBounds_ne (by omega), Array.getElem?_setIfInBounds_ne (by omega), Array.getElem?_setIfInBounds_ne (by omega), Array.getElem?_setIfInBounds_ne (by omega)]; exact h7
  · exact ((((hB.setCell (p := ⟨n0 + 1, i, none⟩) (Nat.le_refl _) _).setCell (p := ⟨n0 + 1 + 1, i * 4, none⟩) (Nat.le_succ _) _).setCell (p := ⟨n0 + 1 + 1, i * 4 + 1, none⟩) (Nat.le_succ _) _).setCell (p := ⟨n0 + 1 + 1, i * 4 + 2, none⟩) (Nat.le_succ _) _).setCell (p := ⟨n0 + 1 + 1, i * 4 + 3, none⟩) (Nat.le_succ _) _
  · simpa using hz
end

/-- The cells of the four units. -/
def unitsL (a b c : Wind) : Array Value := #[.int .i64 a.kind, .int .i64 a.turns, .int .i64 a.shift, .bool a.rev, .int .i64 b.kind, .int .i64 b.turns, .int .i64 b.shift, .bool b.rev, .int .i64 0, .int .i64 b.kind, .int .i64 b.turns, .int .i64 b.shift, .bool b.rev, .int .i64 c.kind, .int .i64 c.turns, .int .i64 c.shift, .bool c.rev, .int .i64 0, .int .i64 a.kind, .int .i64 a.turns, .int .i64 a.shift, .bool a.rev, .int .i64 c.kind, .int .i64 c.turns, .int .i64 c.shift, .bool c.rev, .int .i64 0, .int .i64 b.kind, .int .i64 b.turns, .int .i64 b.shift, .bool b.rev, .int .i64 a.kind, .int .i64 a.turns, .int .i64 a.shift, .bool a.rev, .int .i64 0]
def unitC (x y : Wind) : Array Value := #[.int .i64 x.kind, .int .i64 x.turns, .int .i64 x.shift, .bool x.rev, .int .i64 y.kind, .int .i64 y.turns, .int .i64 y.shift, .bool y.rev, .int .i64 0]
theorem units_at (a b c : Wind) {i : Nat} (hi : i < 4) : (unitC (chX a b i) (chY a b c i)).toList = ((unitsL a b c).toList.drop (i * 9)).take (unitC (chX a b i) (chY a b c i)).size := by
  rcases (show i = 0 ∨ i = 1 ∨ i = 2 ∨ i = 3 by omega) with rfl | rfl | rfl | rfl <;> rfl
theorem bne_of {E : Int} (h : E ≠ 0) : (E != 0) = true := by simpa using h
theorem clock_chain {x y : Wind} (hx : x.ok) (hy : y.ok) (w : World) (hT : TwIn w) (hP : PatIn w) :
    Calls Tryz.prog 18 #[.agg (unitC x y)] w fun z w' => z = .returned (.tuple #[.int .i64 (hoursU x y), .int .i64 0]) ∧ Below w.heap.size w w' := ClockOf_ok x.kind x.turns x.shift x.rev y.kind y.turns y.shift y.rev 0 (unit_zero hx hy) w hT hP
theorem square_chain {x y : Wind} (hx : x.ok) (hy : y.ok) (w : World) (hP : PatIn w) :
    Calls Tryz.prog 19 #[.agg (unitC x y)] w fun z w' => z = .returned (.tuple #[.agg #[.int .i64 (numU x y), .int .i64 (denU x y)], .int .i64 0]) ∧ Below w.heap.size w w' := RatioSquare_ok x.kind x.turns x.shift x.rev y.kind y.turns y.shift y.rev 0 (unit_zero hx hy) w hP
theorem turn_zero {h : Int} (r : 0 ≤ h ∧ h ≤ 11) : turnE h = 0 := by
  unfold turnE withinB
  rw [decide_eq_true r.1, decide_eq_true r.2]
  rfl
theorem windE_w {x : Wind} (h : x.ok) : windE x.kind x.turns x.shift = 0 := windE_of (r := x.rev) h

set_option maxHeartbeats 16000000 in
set_option maxRecDepth 100000 in
theorem chain_e1 (a b c : Wind) (he : windE a.kind a.turns a.shift ≠ 0) (w : World) (hT : TwIn w) (hP : PatIn w) (hS : StrIn w) :
    Calls Tryz.prog 4 #[.agg #[.int .i64 a.kind, .int .i64 a.turns, .int .i64 a.shift, .bool a.rev], .agg #[.int .i64 b.kind, .int .i64 b.turns, .int .i64 b.shift, .bool b.rev], .agg #[.int .i64 c.kind, .int .i64 c.turns, .int .i64 c.shift, .bool c.rev]] w fun e w' => e = .returned (.bool true) ∧ Below w.heap.size w w' := by
  have HT := Lib.hid (fun w' (h : Below w.heap.size w w') => hT.below h)
  have HP := Lib.hid (fun w' (h : Below w.heap.size w w') => hP.below h)
  have HS := Lib.hid (fun w' (h : Below w.heap.size w w') => hS.kept h)
  clear hT hP hS
  have HW1 := refWindingErr_any a.kind a.turns a.shift a.rev
  have e1 := bne_of he
  have e2 : ¬ windE a.kind a.turns a.shift = 0 := he
  replace HW1 := Lib.hid HW1
  generalize windE a.kind a.turns a.shift = E at *
  clear he 
  obtain ⟨ak, at_, as_, ar⟩ := a
  obtain ⟨bk, bt, bs, br⟩ := b
  obtain ⟨ck, ct, cs, cr⟩ := c
  dsimp only at *
  go_enter Tryz.func4, Tryz.ntmps4
  go_wp2_with (first
    | (go_at_call 16; (with_reducible refine (topAwake_any _ (HT.out _ (pa (pa (pa (pr))))) (HP.out _ (pa (pa (pa (pr))))) (HS.out _ (pa (pa (pa (pr)))))).mono ?_); rintro e w1_ ⟨rfl, h1_⟩; have A_1 : Blk w1_ (w.heap.size) 45 #[.int .i64 ak, .int .i64 at_, .int .i64 as_, .bool ar] := (Blk.newAt (by simp)).alloc.alloc.past h1_; have B_1 : Blk w1_ (w.heap.size + 1) 45 #[.int .i64 bk, .int .i64 bt, .int .i64 bs, .bool br] := (Blk.newAt (by simp)).alloc.past h1_; have C_1 : Blk w1_ (w.heap.size + 1 + 1) 45 #[.int .i64 ck, .int .i64 ct, .int .i64 cs, .bool cr] := (Blk.newAt (by simp)).past h1_; have S_1 := pt (pa (pa (pa (pr)))) h1_; have Ac0 := A_1.cellAt 0 rfl; have Ac1 := A_1.cellAt 1 rfl; have Ac2 := A_1.cellAt 2 rfl; have Ac3 := A_1.cellAt 3 rfl; have Al := A_1.lt; have Bc0 := B_1.cellAt 0 rfl; have Bc1 := B_1.cellAt 1 rfl; have Bc2 := B_1.cellAt 2 rfl; have Bc3 := B_1.cellAt 3 rfl; have Bl := B_1.lt; have Cc0 := C_1.cellAt 0 rfl; have Cc1 := C_1.cellAt 1 rfl; have Cc2 := C_1.cellAt 2 rfl; have Cc3 := C_1.cellAt 3 rfl; have Cl := C_1.lt; clear h1_)
    | (go_at_call 17; (with_reducible refine (HW1.out _).mono ?_); rintro e w2_ ⟨rfl, h2_⟩; have A_2 : Blk w2_ (w.heap.size) 45 #[.int .i64 ak, .int .i64 at_, .int .i64 as_, .bool ar] := (A_1).past h2_; have B_2 : Blk w2_ (w.heap.size + 1) 45 #[.int .i64 bk, .int .i64 bt, .int .i64 bs, .bool br] := (B_1).past h2_; have C_2 : Blk w2_ (w.heap.size + 1 + 1) 45 #[.int .i64 ck, .int .i64 ct, .int .i64 cs, .bool cr] := (C_1).past h2_; have S_2 := pt (S_1) h2_; clear A_1 B_1 C_1 S_1 Ac0 Ac1 Ac2 Ac3 Al Bc0 Bc1 Bc2 Bc3 Bl Cc0 Cc1 Cc2 Cc3 Cl; have Ac0 := A_2.cellAt 0 rfl; have Ac1 := A_2.cellAt 1 rfl; have Ac2 := A_2.cellAt 2 rfl; have Ac3 := A_2.cellAt 3 rfl; have Al := A_2.lt; have Bc0 := B_2.cellAt 0 rfl; have Bc1 := B_2.cellAt 1 rfl; have Bc2 := B_2.cellAt 2 rfl; have Bc3 := B_2.cellAt 3 rfl; have Bl := B_2.lt; have Cc0 := C_2.cellAt 0 rfl; have Cc1 := C_2.cellAt 1 rfl; have Cc2 := C_2.cellAt 2 rfl; have Cc3 := C_2.cellAt 3 rfl; have Cl := C_2.lt; clear h2_))
  go_ret
  exact ⟨rfl, by repeat (first | exact S_2 | refine pa ?_)⟩

set_option maxHeartbeats 16000000 in
set_option maxRecDepth 100000 in
theorem chain_e2 (a b c : Wind) (h1 : a.ok) (he : windE b.kind b.turns b.shift ≠ 0) (w : World) (hT : TwIn w) (hP : PatIn w) (hS : StrIn w) :
    Calls Tryz.prog 4 #[.agg #[.int .i64 a.kind, .int .i64 a.turns, .int .i64 a.shift, .bool a.rev], .agg #[.int .i64 b.kind, .int .i64 b.turns, .int .i64 b.shift, .bool b.rev], .agg #[.int .i64 c.kind, .int .i64 c.turns, .int .i64 c.shift, .bool c.rev]] w fun e w' => e = .returned (.bool true) ∧ Below w.heap.size w w' := by
  have HT := Lib.hid (fun w' (h : Below w.heap.size w w') => hT.below h)
  have HP := Lib.hid (fun w' (h : Below w.heap.size w w') => hP.below h)
  have HS := Lib.hid (fun w' (h : Below w.heap.size w w') => hS.kept h)
  clear hT hP hS
  have HW1 := refWindingErr_any a.kind a.turns a.shift a.rev
  rw [windE_w h1] at HW1
  have HW2 := refWindingErr_any b.kind b.turns b.shift b.rev
  have e1 := bne_of he
  have e2 : ¬ windE b.kind b.turns b.shift = 0 := he
  replace HW1 := Lib.hid HW1
  replace HW2 := Lib.hid HW2
  generalize windE b.kind b.turns b.shift = E at *
  clear he h1
  obtain ⟨ak, at_, as_, ar⟩ := a
  obtain ⟨bk, bt, bs, br⟩ := b
  obtain ⟨ck, ct, cs, cr⟩ := c
  dsimp only at *
  go_enter Tryz.func4, Tryz.ntmps4
  go_wp2_with (first
    | (go_at_call 16; (with_reducible refine (topAwake_any _ (HT.out _ (pa (pa (pa (pr))))) (HP.out _ (pa (pa (pa (pr))))) (HS.out _ (pa (pa (pa (pr)))))).mono ?_); rintro e w1_ ⟨rfl, h1_⟩; have A_1 : Blk w1_ (w.heap.size) 45 #[.int .i64 ak, .int .i64 at_, .int .i64 as_, .bool ar] := (Blk.newAt (by simp)).alloc.alloc.past h1_; have B_1 : Blk w1_ (w.heap.size + 1) 45 #[.int .i64 bk, .int .i64 bt, .int .i64 bs, .bool br] := (Blk.newAt (by simp)).alloc.past h1_; have C_1 : Blk w1_ (w.heap.size + 1 + 1) 45 #[.int .i64 ck, .int .i64 ct, .int .i64 cs, .bool cr] := (Blk.newAt (by simp)).past h1_; have S_1 := pt (pa (pa (pa (pr)))) h1_; have Ac0 := A_1.cellAt 0 rfl; have Ac1 := A_1.cellAt 1 rfl; have Ac2 := A_1.cellAt 2 rfl; have Ac3 := A_1.cellAt 3 rfl; have Al := A_1.lt; have Bc0 := B_1.cellAt 0 rfl; have Bc1 := B_1.cellAt 1 rfl; have Bc2 := B_1.cellAt 2 rfl; have Bc3 := B_1.cellAt 3 rfl; have Bl := B_1.lt; have Cc0 := C_1.cellAt 0 rfl; have Cc1 := C_1.cellAt 1 rfl; have Cc2 := C_1.cellAt 2 rfl; have Cc3 := C_1.cellAt 3 rfl; have Cl := C_1.lt; clear h1_)
    | (go_at_call 17; (with_reducible refine (HW1.out _).mono ?_); rintro e w2_ ⟨rfl, h2_⟩; have A_2 : Blk w2_ (w.heap.size) 45 #[.int .i64 ak, .int .i64 at_, .int .i64 as_, .bool ar] := (A_1).past h2_; have B_2 : Blk w2_ (w.heap.size + 1) 45 #[.int .i64 bk, .int .i64 bt, .int .i64 bs, .bool br] := (B_1).past h2_; have C_2 : Blk w2_ (w.heap.size + 1 + 1) 45 #[.int .i64 ck, .int .i64 ct, .int .i64 cs, .bool cr] := (C_1).past h2_; have S_2 := pt (S_1) h2_; clear A_1 B_1 C_1 S_1 Ac0 Ac1 Ac2 Ac3 Al Bc0 Bc1 Bc2 Bc3 Bl Cc0 Cc1 Cc2 Cc3 Cl; have Ac0 := A_2.cellAt 0 rfl; have Ac1 := A_2.cellAt 1 rfl; have Ac2 := A_2.cellAt 2 rfl; have Ac3 := A_2.cellAt 3 rfl; have Al := A_2.lt; have Bc0 := B_2.cellAt 0 rfl; have Bc1 := B_2.cellAt 1 rfl; have Bc2 := B_2.cellAt 2 rfl; have Bc3 := B_2.cellAt 3 rfl; have Bl := B_2.lt; have Cc0 := C_2.cellAt 0 rfl; have Cc1 := C_2.cellAt 1 rfl; have Cc2 := C_2.cellAt 2 rfl; have Cc3 := C_2.cellAt 3 rfl; have Cl := C_2.lt; clear h2_)
    | (go_at_call 17; (with_reducible refine (HW2.out _).mono ?_); rintro e w3_ ⟨rfl, h3_⟩; have A_3 : Blk w3_ (w.heap.size) 45 #[.int .i64 ak, .int .i64 at_, .int .i64 as_, .bool ar] := (A_2).past h3_; have B_3 : Blk w3_ (w.heap.size + 1) 45 #[.int .i64 bk, .int .i64 bt, .int .i64 bs, .bool br] := (B_2).past h3_; have C_3 : Blk w3_ (w.heap.size + 1 + 1) 45 #[.int .i64 ck, .int .i64 ct, .int .i64 cs, .bool cr] := (C_2).past h3_; have S_3 := pt (S_2) h3_; clear A_2 B_2 C_2 S_2 Ac0 Ac1 Ac2 Ac3 Al Bc0 Bc1 Bc2 Bc3 Bl Cc0 Cc1 Cc2 Cc3 Cl; have Ac0 := A_3.cellAt 0 rfl; have Ac1 := A_3.cellAt 1 rfl; have Ac2 := A_3.cellAt 2 rfl; have Ac3 := A_3.cellAt 3 rfl; have Al := A_3.lt; have Bc0 := B_3.cellAt 0 rfl; have Bc1 := B_3.cellAt 1 rfl; have Bc2 := B_3.cellAt 2 rfl; have Bc3 := B_3.cellAt 3 rfl; have Bl := B_3.lt; have Cc0 := C_3.cellAt 0 rfl; have Cc1 := C_3.cellAt 1 rfl; have Cc2 := C_3.cellAt 2 rfl; have Cc3 := C_3.cellAt 3 rfl; have Cl := C_3.lt; clear h3_))
  go_ret
  exact ⟨rfl, by repeat (first | exact S_3 | refine pa ?_)⟩

set_option maxHeartbeats 16000000 in
set_option maxRecDepth 100000 in
theorem chain_e3 (a b c : Wind) (h1 : a.ok) (h2 : b.ok) (he : windE c.kind c.turns c.shift ≠ 0) (w : World) (hT : TwIn w) (hP : PatIn w) (hS : StrIn w) :
    Calls Tryz.prog 4 #[.agg #[.int .i64 a.kind, .int .i64 a.turns, .int .i64 a.shift, .bool a.rev], .agg #[.int .i64 b.kind, .int .i64 b.turns, .int .i64 b.shift, .bool b.rev], .agg #[.int .i64 c.kind, .int .i64 c.turns, .int .i64 c.shift, .bool c.rev]] w fun e w' => e = .returned (.bool true) ∧ Below w.heap.size w w' := by
  have HT := Lib.hid (fun w' (h : Below w.heap.size w w') => hT.below h)
  have HP := Lib.hid (fun w' (h : Below w.heap.size w w') => hP.below h)
  have HS := Lib.hid (fun w' (h : Below w.heap.size w w') => hS.kept h)
  clear hT hP hS
  have HW1 := refWindingErr_any a.kind a.turns a.shift a.rev
  rw [windE_w h1] at HW1
  have HW2 := refWindingErr_any b.kind b.turns b.shift b.rev
  rw [windE_w h2] at HW2
  have HW3 := refWindingErr_any c.kind c.turns c.shift c.rev
  have e1 := bne_of he
  have e2 : ¬ windE c.kind c.turns c.shift = 0 := he
  replace HW1 := Lib.hid HW1
  replace HW2 := Lib.hid HW2
  replace HW3 := Lib.hid HW3
  generalize windE c.kind c.turns c.shift = E at *
  clear he h1 h2
  obtain ⟨ak, at_, as_, ar⟩ := a
  obtain ⟨bk, bt, bs, br⟩ := b
  obtain ⟨ck, ct, cs, cr⟩ := c
  dsimp only at *
  go_enter Tryz.func4, Tryz.ntmps4
  go_wp2_with (first
    | (go_at_call 16; (with_reducible refine (topAwake_any _ (HT.out _ (pa (pa (pa (pr))))) (HP.out _ (pa (pa (pa (pr))))) (HS.out _ (pa (pa (pa (pr)))))).mono ?_); rintro e w1_ ⟨rfl, h1_⟩; have A_1 : Blk w1_ (w.heap.size) 45 #[.int .i64 ak, .int .i64 at_, .int .i64 as_, .bool ar] := (Blk.newAt (by simp)).alloc.alloc.past h1_; have B_1 : Blk w1_ (w.heap.size + 1) 45 #[.int .i64 bk, .int .i64 bt, .int .i64 bs, .bool br] := (Blk.newAt (by simp)).alloc.past h1_; have C_1 : Blk w1_ (w.heap.size + 1 + 1) 45 #[.int .i64 ck, .int .i64 ct, .int .i64 cs, .bool cr] := (Blk.newAt (by simp)).past h1_; have S_1 := pt (pa (pa (pa (pr)))) h1_; have Ac0 := A_1.cellAt 0 rfl; have Ac1 := A_1.cellAt 1 rfl; have Ac2 := A_1.cellAt 2 rfl; have Ac3 := A_1.cellAt 3 rfl; have Al := A_1.lt; have Bc0 := B_1.cellAt 0 rfl; have Bc1 := B_1.cellAt 1 rfl; have Bc2 := B_1.cellAt 2 rfl; have Bc3 := B_1.cellAt 3 rfl; have Bl := B_1.lt; have Cc0 := C_1.cellAt 0 rfl; have Cc1 := C_1.cellAt 1 rfl; have Cc2 := C_1.cellAt 2 rfl; have Cc3 := C_1.cellAt 3 rfl; have Cl := C_1.lt; clear h1_)
    | (go_at_call 17; (with_reducible refine (HW1.out _).mono ?_); rintro e w2_ ⟨rfl, h2_⟩; have A_2 : Blk w2_ (w.heap.size) 45 #[.int .i64 ak, .int .i64 at_, .int .i64 as_, .bool ar] := (A_1).past h2_; have B_2 : Blk w2_ (w.heap.size + 1) 45 #[.int .i64 bk, .int .i64 bt, .int .i64 bs, .bool br] := (B_1).past h2_; have C_2 : Blk w2_ (w.heap.size + 1 + 1) 45 #[.int .i64 ck, .int .i64 ct, .int .i64 cs, .bool cr] := (C_1).past h2_; have S_2 := pt (S_1) h2_; clear A_1 B_1 C_1 S_1 Ac0 Ac1 Ac2 Ac3 Al Bc0 Bc1 Bc2 Bc3 Bl Cc0 Cc1 Cc2 Cc3 Cl; have Ac0 := A_2.cellAt 0 rfl; have Ac1 := A_2.cellAt 1 rfl; have Ac2 := A_2.cellAt 2 rfl; have Ac3 := A_2.cellAt 3 rfl; have Al := A_2.lt; have Bc0 := B_2.cellAt 0 rfl; have Bc1 := B_2.cellAt 1 rfl; have Bc2 := B_2.cellAt 2 rfl; have Bc3 := B_2.cellAt 3 rfl; have Bl := B_2.lt; have Cc0 := C_2.cellAt 0 rfl; have Cc1 := C_2.cellAt 1 rfl; have Cc2 := C_2.cellAt 2 rfl; have Cc3 := C_2.cellAt 3 rfl; have Cl := C_2.lt; clear h2_)
    | (go_at_call 17; (with_reducible refine (HW2.out _).mono ?_); rintro e w3_ ⟨rfl, h3_⟩; have A_3 : Blk w3_ (w.heap.size) 45 #[.int .i64 ak, .int .i64 at_, .int .i64 as_, .bool ar] := (A_2).past h3_; have B_3 : Blk w3_ (w.heap.size + 1) 45 #[.int .i64 bk, .int .i64 bt, .int .i64 bs, .bool br] := (B_2).past h3_; have C_3 : Blk w3_ (w.heap.size + 1 + 1) 45 #[.int .i64 ck, .int .i64 ct, .int .i64 cs, .bool cr] := (C_2).past h3_; have S_3 := pt (S_2) h3_; clear A_2 B_2 C_2 S_2 Ac0 Ac1 Ac2 Ac3 Al Bc0 Bc1 Bc2 Bc3 Bl Cc0 Cc1 Cc2 Cc3 Cl; have Ac0 := A_3.cellAt 0 rfl; have Ac1 := A_3.cellAt 1 rfl; have Ac2 := A_3.cellAt 2 rfl; have Ac3 := A_3.cellAt 3 rfl; have Al := A_3.lt; have Bc0 := B_3.cellAt 0 rfl; have Bc1 := B_3.cellAt 1 rfl; have Bc2 := B_3.cellAt 2 rfl; have Bc3 := B_3.cellAt 3 rfl; have Bl := B_3.lt; have Cc0 := C_3.cellAt 0 rfl; have Cc1 := C_3.cellAt 1 rfl; have Cc2 := C_3.cellAt 2 rfl; have Cc3 := C_3.cellAt 3 rfl; have Cl := C_3.lt; clear h3_)
    | (go_at_call 17; (with_reducible refine (HW3.out _).mono ?_); rintro e w4_ ⟨rfl, h4_⟩; have A_4 : Blk w4_ (w.heap.size) 45 #[.int .i64 ak, .int .i64 at_, .int .i64 as_, .bool ar] := (A_3).past h4_; have B_4 : Blk w4_ (w.heap.size + 1) 45 #[.int .i64 bk, .int .i64 bt, .int .i64 bs, .bool br] := (B_3).past h4_; have C_4 : Blk w4_ (w.heap.size + 1 + 1) 45 #[.int .i64 ck, .int .i64 ct, .int .i64 cs, .bool cr] := (C_3).past h4_; have S_4 := pt (S_3) h4_; clear A_3 B_3 C_3 S_3 Ac0 Ac1 Ac2 Ac3 Al Bc0 Bc1 Bc2 Bc3 Bl Cc0 Cc1 Cc2 Cc3 Cl; have Ac0 := A_4.cellAt 0 rfl; have Ac1 := A_4.cellAt 1 rfl; have Ac2 := A_4.cellAt 2 rfl; have Ac3 := A_4.cellAt 3 rfl; have Al := A_4.lt; have Bc0 := B_4.cellAt 0 rfl; have Bc1 := B_4.cellAt 1 rfl; have Bc2 := B_4.cellAt 2 rfl; have Bc3 := B_4.cellAt 3 rfl; have Bl := B_4.lt; have Cc0 := C_4.cellAt 0 rfl; have Cc1 := C_4.cellAt 1 rfl; have Cc2 := C_4.cellAt 2 rfl; have Cc3 := C_4.cellAt 3 rfl; have Cl := C_4.lt; clear h4_))
  go_ret
  exact ⟨rfl, by repeat (first | exact S_4 | refine pa ?_)⟩

theorem turn_eqlM (a : Int) (b : Bool) (W : World) : (binOp .eql 69 (.agg #[.int .i64 a, .bool b]) (.agg #[.int .i64 a, .bool b])).run Tryz.prog W = .ok (.bool true) W := by
  simp [go_sem]
attribute [local go_sem ↓ high] turn_eqlM

set_option maxHeartbeats 16000000 in
set_option maxRecDepth 100000 in
theorem chain_main (a b c : Wind) (ha : a.ok) (hb : b.ok) (hc : c.ok) (w : World) (hT : TwIn w) (hP : PatIn w) (hS : StrIn w) :
    Calls Tryz.prog 4 #[.agg #[.int .i64 a.kind, .int .i64 a.turns, .int .i64 a.shift, .bool a.rev], .agg #[.int .i64 b.kind, .int .i64 b.turns, .int .i64 b.shift, .bool b.rev], .agg #[.int .i64 c.kind, .int .i64 c.turns, .int .i64 c.shift, .bool c.rev]] w fun e w' => e = .returned (.bool true) ∧ Below w.heap.size w w' := by
  have HT := Lib.hid (fun w' (h : Below w.heap.size w w') => hT.below h)
  have HP := Lib.hid (fun w' (h : Below w.heap.size w w') => hP.below h)
  have HS := Lib.hid (fun w' (h : Below w.heap.size w w') => hS.kept h)
  clear hT hP hS
  have HW1 := refWindingErr_any a.kind a.turns a.shift a.rev
  rw [windE_w ha] at HW1
  replace HW1 := Lib.hid HW1
  have HW2 := refWindingErr_any b.kind b.turns b.shift b.rev
  rw [windE_w hb] at HW2
  replace HW2 := Lib.hid HW2
  have HW3 := refWindingErr_any c.kind c.turns c.shift c.rev
  rw [windE_w hc] at HW3
  replace HW3 := Lib.hid HW3
  have HOk := Lib.hid (And.intro ha (And.intro hb hc))
  clear ha hb hc
  go_enter Tryz.func4, Tryz.ntmps4
  go_wp2_with (first
    | (go_at_call 16; (with_reducible refine (topAwake_any _ (HT.out _ (pa (pa (pa (pr))))) (HP.out _ (pa (pa (pa (pr))))) (HS.out _ (pa (pa (pa (pr)))))).mono ?_); rintro e w1_ ⟨rfl, h1_⟩; have A_1 : Blk w1_ (w.heap.size) 45 #[.int .i64 a.kind, .int .i64 a.turns, .int .i64 a.shift, .bool a.rev] := (Blk.newAt (by simp)).alloc.alloc.past h1_; have B_1 : Blk w1_ (w.heap.size + 1) 45 #[.int .i64 b.kind, .int .i64 b.turns, .int .i64 b.shift, .bool b.rev] := (Blk.newAt (by simp)).alloc.past h1_; have C_1 : Blk w1_ (w.heap.size + 1 + 1) 45 #[.int .i64 c.kind, .int .i64 c.turns, .int .i64 c.shift, .bool c.rev] := (Blk.newAt (by simp)).past h1_; have S_1 := pt (pa (pa (pa (pr)))) h1_; have Ac0 := A_1.cellAt 0 rfl; have Ac1 := A_1.cellAt 1 rfl; have Ac2 := A_1.cellAt 2 rfl; have Ac3 := A_1.cellAt 3 rfl; have Al := A_1.lt; have Bc0 := B_1.cellAt 0 rfl; have Bc1 := B_1.cellAt 1 rfl; have Bc2 := B_1.cellAt 2 rfl; have Bc3 := B_1.cellAt 3 rfl; have Bl := B_1.lt; have Cc0 := C_1.cellAt 0 rfl; have Cc1 := C_1.cellAt 1 rfl; have Cc2 := C_1.cellAt 2 rfl; have Cc3 := C_1.cellAt 3 rfl; have Cl := C_1.lt; clear h1_)
    | (go_at_call 17; (with_reducible refine (HW1.out _).mono ?_); rintro e w2_ ⟨rfl, h2_⟩; have A_2 : Blk w2_ (w.heap.size) 45 #[.int .i64 a.kind, .int .i64 a.turns, .int .i64 a.shift, .bool a.rev] := (A_1).past h2_; have B_2 : Blk w2_ (w.heap.size + 1) 45 #[.int .i64 b.kind, .int .i64 b.turns, .int .i64 b.shift, .bool b.rev] := (B_1).past h2_; have C_2 : Blk w2_ (w.heap.size + 1 + 1) 45 #[.int .i64 c.kind, .int .i64 c.turns, .int .i64 c.shift, .bool c.rev] := (C_1).past h2_; have S_2 := pt (S_1) h2_; clear A_1 B_1 C_1 S_1 Ac0 Ac1 Ac2 Ac3 Al Bc0 Bc1 Bc2 Bc3 Bl Cc0 Cc1 Cc2 Cc3 Cl; have Ac0 := A_2.cellAt 0 rfl; have Ac1 := A_2.cellAt 1 rfl; have Ac2 := A_2.cellAt 2 rfl; have Ac3 := A_2.cellAt 3 rfl; have Al := A_2.lt; have Bc0 := B_2.cellAt 0 rfl; have Bc1 := B_2.cellAt 1 rfl; have Bc2 := B_2.cellAt 2 rfl; have Bc3 := B_2.cellAt 3 rfl; have Bl := B_2.lt; have Cc0 := C_2.cellAt 0 rfl; have Cc1 := C_2.cellAt 1 rfl; have Cc2 := C_2.cellAt 2 rfl; have Cc3 := C_2.cellAt 3 rfl; have Cl := C_2.lt; clear h2_)
    | (go_at_call 17; (with_reducible refine (HW2.out _).mono ?_); rintro e w3_ ⟨rfl, h3_⟩; have A_3 : Blk w3_ (w.heap.size) 45 #[.int .i64 a.kind, .int .i64 a.turns, .int .i64 a.shift, .bool a.rev] := (A_2).past h3_; have B_3 : Blk w3_ (w.heap.size + 1) 45 #[.int .i64 b.kind, .int .i64 b.turns, .int .i64 b.shift, .bool b.rev] := (B_2).past h3_; have C_3 : Blk w3_ (w.heap.size + 1 + 1) 45 #[.int .i64 c.kind, .int .i64 c.turns, .int .i64 c.shift, .bool c.rev] := (C_2).past h3_; have S_3 := pt (S_2) h3_; clear A_2 B_2 C_2 S_2 Ac0 Ac1 Ac2 Ac3 Al Bc0 Bc1 Bc2 Bc3 Bl Cc0 Cc1 Cc2 Cc3 Cl; have Ac0 := A_3.cellAt 0 rfl; have Ac1 := A_3.cellAt 1 rfl; have Ac2 := A_3.cellAt 2 rfl; have Ac3 := A_3.cellAt 3 rfl; have Al := A_3.lt; have Bc0 := B_3.cellAt 0 rfl; have Bc1 := B_3.cellAt 1 rfl; have Bc2 := B_3.cellAt 2 rfl; have Bc3 := B_3.cellAt 3 rfl; have Bl := B_3.lt; have Cc0 := C_3.cellAt 0 rfl; have Cc1 := C_3.cellAt 1 rfl; have Cc2 := C_3.cellAt 2 rfl; have Cc3 := C_3.cellAt 3 rfl; have Cl := C_3.lt; clear h3_)
    | (go_at_call 17; (with_reducible refine (HW3.out _).mono ?_); rintro e w4_ ⟨rfl, h4_⟩; have A_4 : Blk w4_ (w.heap.size) 45 #[.int .i64 a.kind, .int .i64 a.turns, .int .i64 a.shift, .bool a.rev] := (A_3).past h4_; have B_4 : Blk w4_ (w.heap.size + 1) 45 #[.int .i64 b.kind, .int .i64 b.turns, .int .i64 b.shift, .bool b.rev] := (B_3).past h4_; have C_4 : Blk w4_ (w.heap.size + 1 + 1) 45 #[.int .i64 c.kind, .int .i64 c.turns, .int .i64 c.shift, .bool c.rev] := (C_3).past h4_; have S_4 := pt (S_3) h4_; clear A_3 B_3 C_3 S_3 Ac0 Ac1 Ac2 Ac3 Al Bc0 Bc1 Bc2 Bc3 Bl Cc0 Cc1 Cc2 Cc3 Cl; have Ac0 := A_4.cellAt 0 rfl; have Ac1 := A_4.cellAt 1 rfl; have Ac2 := A_4.cellAt 2 rfl; have Ac3 := A_4.cellAt 3 rfl; have Al := A_4.lt; have Bc0 := B_4.cellAt 0 rfl; have Bc1 := B_4.cellAt 1 rfl; have Bc2 := B_4.cellAt 2 rfl; have Bc3 := B_4.cellAt 3 rfl; have Bl := B_4.lt; have Cc0 := C_4.cellAt 0 rfl; have Cc1 := C_4.cellAt 1 rfl; have Cc2 := C_4.cellAt 2 rfl; have Cc3 := C_4.cellAt 3 rfl; have Cl := C_4.lt; clear h4_))
  have HUB := Lib.hid (show Blk (((w4_.alloc (.cells #[.int .i64 a.kind, .int .i64 a.turns, .int .i64 a.shift, .bool a.rev, .int .i64 b.kind, .int .i64 b.turns, .int .i64 b.shift, .bool b.rev, .int .i64 0, .int .i64 b.kind, .int .i64 b.turns, .int .i64 b.shift, .bool b.rev, .int .i64 c.kind, .int .i64 c.turns, .int .i64 c.shift, .bool c.rev, .int .i64 0, .int .i64 a.kind, .int .i64 a.turns, .int .i64 a.shift, .bool a.rev, .int .i64 c.kind, .int .i64 c.turns, .int .i64 c.shift, .bool c.rev, .int .i64 0, .int .i64 b.kind, .int .i64 b.turns, .int .i64 b.shift, .bool b.rev, .int .i64 a.kind, .int .i64 a.turns, .int .i64 a.shift, .bool a.rev, .int .i64 0] 48)).alloc (.cells #[.int .i64 0, .int .i64 0, .int .i64 0, .int .i64 0] 50)).alloc (.cells #[.int .i64 0, .slice none 0 0, .int .i64 0, .slice none 0 0, .int .i64 0, .slice none 0 0, .int .i64 0, .slice none 0 0, .int .i64 0, .slice none 0 0, .int .i64 0, .slice none 0 0, .int .i64 0, .slice none 0 0, .int .i64 0, .slice none 0 0] 56)) w4_.heap.size 48 (unitsL a b c) from ((Blk.new _ _ _).alloc).alloc)
  have HSt := Lib.hid (show ChSt (((w4_.alloc (.cells #[.int .i64 a.kind, .int .i64 a.turns, .int .i64 a.shift, .bool a.rev, .int .i64 b.kind, .int .i64 b.turns, .int .i64 b.shift, .bool b.rev, .int .i64 0, .int .i64 b.kind, .int .i64 b.turns, .int .i64 b.shift, .bool b.rev, .int .i64 c.kind, .int .i64 c.turns, .int .i64 c.shift, .bool c.rev, .int .i64 0, .int .i64 a.kind, .int .i64 a.turns, .int .i64 a.shift, .bool a.rev, .int .i64 c.kind, .int .i64 c.turns, .int .i64 c.shift, .bool c.rev, .int .i64 0, .int .i64 b.kind, .int .i64 b.turns, .int .i64 b.shift, .bool b.rev, .int .i64 a.kind, .int .i64 a.turns, .int .i64 a.shift, .bool a.rev, .int .i64 0] 48)).alloc (.cells #[.int .i64 0, .int .i64 0, .int .i64 0, .int .i64 0] 50)).alloc (.cells #[.int .i64 0, .slice none 0 0, .int .i64 0, .slice none 0 0, .int .i64 0, .slice none 0 0, .int .i64 0, .slice none 0 0, .int .i64 0, .slice none 0 0, .int .i64 0, .slice none 0 0, .int .i64 0, .slice none 0 0, .int .i64 0, .slice none 0 0] 56)) w4_.heap.size (chH a b c) (chS a b c) 0 (((w4_.alloc (.cells #[.int .i64 a.kind, .int .i64 a.turns, .int .i64 a.shift, .bool a.rev, .int .i64 b.kind, .int .i64 b.turns, .int .i64 b.shift, .bool b.rev, .int .i64 0, .int .i64 b.kind, .int .i64 b.turns, .int .i64 b.shift, .bool b.rev, .int .i64 c.kind, .int .i64 c.turns, .int .i64 c.shift, .bool c.rev, .int .i64 0, .int .i64 a.kind, .int .i64 a.turns, .int .i64 a.shift, .bool a.rev, .int .i64 c.kind, .int .i64 c.turns, .int .i64 c.shift, .bool c.rev, .int .i64 0, .int .i64 b.kind, .int .i64 b.turns, .int .i64 b.shift, .bool b.rev, .int .i64 a.kind, .int .i64 a.turns, .int .i64 a.shift, .bool a.rev, .int .i64 0] 48)).alloc (.cells #[.int .i64 0, .int .i64 0, .int .i64 0, .int .i64 0] 50)).alloc (.cells #[.int .i64 0, .slice none 0 0, .int .i64 0, .slice none 0 0, .int .i64 0, .slice none 0 0, .int .i64 0, .slice none 0 0, .int .i64 0, .slice none 0 0, .int .i64 0, .slice none 0 0, .int .i64 0, .slice none 0 0, .int .i64 0, .slice none 0 0] 56)) from ⟨⟨_, (Blk.newAt (w := w4_.alloc (.cells #[.int .i64 a.kind, .int .i64 a.turns, .int .i64 a.shift, .bool a.rev, .int .i64 b.kind, .int .i64 b.turns, .int .i64 b.shift, .bool b.rev, .int .i64 0, .int .i64 b.kind, .int .i64 b.turns, .int .i64 b.shift, .bool b.rev, .int .i64 c.kind, .int .i64 c.turns, .int .i64 c.shift, .bool c.rev, .int .i64 0, .int .i64 a.kind, .int .i64 a.turns, .int .i64 a.shift, .bool a.rev, .int .i64 c.kind, .int .i64 c.turns, .int .i64 c.shift, .bool c.rev, .int .i64 0, .int .i64 b.kind, .int .i64 b.turns, .int .i64 b.shift, .bool b.rev, .int .i64 a.kind, .int .i64 a.turns, .int .i64 a.shift, .bool a.rev, .int .i64 0] 48)) (by simp)).alloc, rfl, fun k hk => absurd hk (Nat.not_lt_zero k)⟩, ⟨_, Blk.newAt (by simp), rfl, fun k hk => absurd hk (Nat.not_lt_zero k)⟩, Below.refl _ _, by simp⟩)
  have HQ0 := Lib.hid (show Below w.heap.size w (((w4_.alloc (.cells #[.int .i64 a.kind, .int .i64 a.turns, .int .i64 a.shift, .bool a.rev, .int .i64 b.kind, .int .i64 b.turns, .int .i64 b.shift, .bool b.rev, .int .i64 0, .int .i64 b.kind, .int .i64 b.turns, .int .i64 b.shift, .bool b.rev, .int .i64 c.kind, .int .i64 c.turns, .int .i64 c.shift, .bool c.rev, .int .i64 0, .int .i64 a.kind, .int .i64 a.turns, .int .i64 a.shift, .bool a.rev, .int .i64 c.kind, .int .i64 c.turns, .int .i64 c.shift, .bool c.rev, .int .i64 0, .int .i64 b.kind, .int .i64 b.turns, .int .i64 b.shift, .bool b.rev, .int .i64 a.kind, .int .i64 a.turns, .int .i64 a.shift, .bool a.rev, .int .i64 0] 48)).alloc (.cells #[.int .i64 0, .int .i64 0, .int .i64 0, .int .i64 0] 50)).alloc (.cells #[.int .i64 0, .slice none 0 0, .int .i64 0, .slice none 0 0, .int .i64 0, .slice none 0 0, .int .i64 0, .slice none 0 0, .int .i64 0, .slice none 0 0, .int .i64 0, .slice none 0 0, .int .i64 0, .slice none 0 0, .int .i64 0, .slice none 0 0] 56)) from pa (pa (pa S_4)))
  have HN0 := Lib.hid (S_4.size)
  clear A_4 B_4 C_4 Ac0 Ac1 Ac2 Ac3 Al Bc0 Bc1 Bc2 Bc3 Bl Cc0 Cc1 Cc2 Cc3 Cl S_4
  generalize (((w4_.alloc (.cells #[.int .i64 a.kind, .int .i64 a.turns, .int .i64 a.shift, .bool a.rev, .int .i64 b.kind, .int .i64 b.turns, .int .i64 b.shift, .bool b.rev, .int .i64 0, .int .i64 b.kind, .int .i64 b.turns, .int .i64 b.shift, .bool b.rev, .int .i64 c.kind, .int .i64 c.turns, .int .i64 c.shift, .bool c.rev, .int .i64 0, .int .i64 a.kind, .int .i64 a.turns, .int .i64 a.shift, .bool a.rev, .int .i64 c.kind, .int .i64 c.turns, .int .i64 c.shift, .bool c.rev, .int .i64 0, .int .i64 b.kind, .int .i64 b.turns, .int .i64 b.shift, .bool b.rev, .int .i64 a.kind, .int .i64 a.turns, .int .i64 a.shift, .bool a.rev, .int .i64 0] 48)).alloc (.cells #[.int .i64 0, .int .i64 0, .int .i64 0, .int .i64 0] 50)).alloc (.cells #[.int .i64 0, .slice none 0 0, .int .i64 0, .slice none 0 0, .int .i64 0, .slice none 0 0, .int .i64 0, .slice none 0 0, .int .i64 0, .slice none 0 0, .int .i64 0, .slice none 0 0, .int .i64 0, .slice none 0 0, .int .i64 0, .slice none 0 0] 56)) = v at *
  generalize w4_.heap.size = n0 at *
  as_aux_lemma =>
  go_loopw [10] (fun iv wr => ∃ i : Nat, iv = .int .i64 (i : Int) ∧ i ≤ 4 ∧ ChSt v n0 (chH a b c) (chS a b c) i wr) (fun iv _ => 4 - (intOf iv).toNat)
  case atStart => exact ⟨0, rfl, Nat.zero_le _, HSt.out⟩
  case round =>
    obtain ⟨i, rfl, hi, hst⟩ := hrel
    replace HSt := Lib.hid hst
    clear hst
    by_cases hlt : i < 4
    · as_aux_lemma =>
      have i0 : (0 : Int) ≤ (i : Int) := by omega
      have i1 : (i : Int) < 4 := by omega
      have HI := Lib.hid hlt
      have HStep := Lib.hid (show ∀ W A c1 A2 c2, ChSt v n0 (chH a b c) (chS a b c) i W → RatAt W A c1 A2 c2 (Rat.divInt (numU (chX a b i) (chY a b c i)) (denU (chX a b i) (chY a b c i))) → ChSt v n0 (chH a b c) (chS a b c) (i + 1) (((((W.setCell ⟨n0 + 1, i, none⟩ (.int .i64 (hoursU (chX a b i) (chY a b c i)))).setCell ⟨n0 + 1 + 1, i * 4, none⟩ (.int .i64 (signD (Rat.divInt (numU (chX a b i) (chY a b c i)) (denU (chX a b i) (chY a b c i))).num))).setCell ⟨n0 + 1 + 1, i * 4 + 1, none⟩ (.slice A (dl (Rat.divInt (numU (chX a b i) (chY a b c i)) (denU (chX a b i) (chY a b c i))).num) c1)).setCell ⟨n0 + 1 + 1, i * 4 + 2, none⟩ (.int .i64 (signD ((Rat.divInt (numU (chX a b i) (chY a b c i)) (denU (chX a b i) (chY a b c i))).den : Int)))).setCell ⟨n0 + 1 + 1, i * 4 + 3, none⟩ (.slice A2 (dl ((Rat.divInt (numU (chX a b i) (chY a b c i)) (denU (chX a b i) (chY a b c i))).den : Int)) c2)) from fun W A c1 A2 c2 h hR => h.step hlt hR)
      obtain ⟨ha, hb, hc⟩ := HOk.out
      have hx := chX_ok ha hb i
      have hy := chY_ok ha hb hc i
      have HAt := Lib.hid (units_at a b c hlt)
      have HUs := Lib.hid (show (Tryz.prog.info? 48).map (·.size) = some (unitC (chX a b i) (chY a b c i)).size from apiUnit_size)
      have HUW := Lib.hid (HUB.out.below HSt.out.bel (Nat.lt_succ_self _))
      have HBw := Lib.hid (HQ0.out.trans (HSt.out.bel.mono (Nat.le_succ_of_le HN0.out)))
      clear HQ0 HN0 HUB HW1 HW2 HW3 HOk ha hb hc hi
      generalize unitsL a b c = UL at *
      generalize (chX a b i) = x at *
      generalize (chY a b c i) = y at *
      generalize hHH : (chH a b c) = hh at *
      generalize hSS : (chS a b c) = ss at *
      have HC := Lib.hid (fun W hT hP => clock_chain hx hy W hT hP)
      have HR := Lib.hid (fun W hP => square_chain hx hy W hP)
      obtain ⟨n1, n2⟩ := numU_range hx hy
      have hh1 := hoursU_range x y
      have HL := baseIsLowest_any (numU x y) (denU x y) (by unfold Sm; omega) (by unfold Sm; omega)
      rw [unit_low hx hy] at HL
      replace HL := Lib.hid HL
      have HF := Lib.hid (fun W => ratioFrom_any (numU x y) (denU x y) W (by omega) (by omega) (by omega))
      have HWi := refWithin_any (hoursU x y) 0 11
      rw [show withinB (hoursU x y) 0 11 = true by unfold withinB; rw [decide_eq_true hh1.1, decide_eq_true hh1.2]; rfl] at HWi
      replace HWi := Lib.hid HWi
      clear hHH hSS hx hy
      generalize unitC x y = UC at *
      go_wp2_with (first
        | ((with_reducible refine load_sub (T := 48) (x := .tmp 56) (o := i * 9) (vs := UC) HUW.out ?_ ?_ Tryz.underlying48 ?_ ?_ ?_); (focus rfl); (focus exact HAt.out); (focus rfl); (focus exact HUs.out))
        | (go_at_call 18; (with_reducible refine (HC.out _ (HT.out _ HBw.out) (HP.out _ HBw.out)).mono ?_); rintro e w1 ⟨rfl, hb1⟩; have HSa := Lib.hid (HSt.out.past hb1); have HUa := Lib.hid (HUW.out.past hb1); have HBa := Lib.hid (pt HBw.out hb1); clear hb1)
        | ((with_reducible refine load_sub (T := 48) (x := .tmp 64) (o := i * 9) (vs := UC) HUa.out ?_ ?_ Tryz.underlying48 ?_ ?_ ?_); (focus rfl); (focus exact HAt.out); (focus rfl); (focus exact HUs.out))
        | (go_at_call 19; (with_reducible refine (HR.out _ (HP.out _ HBa.out)).mono ?_); rintro e w2 ⟨rfl, hb2⟩; have HSb := Lib.hid ((HSa.out.past hb2).past (pa pr (o := .cells #[.int .i64 (numU x y), .int .i64 (denU x y)] 59))); have HBb := Lib.hid (pa (pt HBa.out hb2) (o := .cells #[.int .i64 (numU x y), .int .i64 (denU x y)] 59)); have HFb := Lib.hid (Blk.new w2 59 #[.int .i64 (numU x y), .int .i64 (denU x y)]); have HZ := Lib.hid (HSa.out.past hb2).big; clear hb2)
        | (go_at_call 20; (with_reducible refine (HWi.out _).mono ?_); rintro e w' ⟨rfl, rfl⟩)
        | (go_at_call 21; (with_reducible refine (HL.out _).mono ?_); rintro e w3 ⟨rfl, hb3⟩; have HSc := Lib.hid (HSb.out.past hb3); have HBc := Lib.hid (pt HBb.out hb3); have HFc := Lib.hid (HFb.out.past hb3); have f0 := HFc.out.cellAt 0 rfl; have fl := HFc.out.lt; clear hb3))
      clear f0 fl HC HR HWi HL HAt HUW HUa HUs HSt HSa HSb HFb HBa HBb HBw
      generalize hfb : w2.heap.size = fb at *
      clear hfb
      as_aux_lemma =>
      have HSS := Lib.hid (show ∀ W, Below w3.heap.size w3 W → W.cell? ⟨fb, 0, none⟩ = some (.int .i64 (numU x y)) ∧ W.cell? ⟨fb, 1, none⟩ = some (.int .i64 (denU x y)) from fun W hW => ⟨(HFc.out.past hW).cellAt 0 rfl, (HFc.out.past hW).cellAt 1 rfl⟩)
      refine wp_region_G 8 follows_mixed (fun W => W.cell? ⟨fb, 0, none⟩ = some (.int .i64 (numU x y)) ∧ W.cell? ⟨fb, 1, none⟩ = some (.int .i64 (denU x y))) (HSS.out _ (pd pr)) ?_
      intro hSd inv
      have HSd := Lib.hid hSd
      clear hSd
      have HB0 := Lib.hid (show Below w3.heap.size w3 w3.drew from pd pr)
      refine wpAnyG_take (i := 0) (v := ?_) rfl (by kernel_rfl) (by kernel_rfl) (by kernel_rfl) (by kernel_rfl) (by kernel_rfl) (by decide) (by decide) inv (fun _ _ _ h => h) (Or.inl ⟨by rfl, ?_⟩) HSd.out ?_; rotate_left; (focus (intro W y1; obtain ⟨y1, y2⟩ := y1; go_simp; (first | done | with_reducible rfl))); clear inv; intro inv; simp only [List.getElem_toArray, List.getElem_cons_zero, Act.put, List.setIfInBounds_toArray, List.set_cons_zero, List.set_cons_succ]
      refine wpAnyG_take (i := 1) (v := ?_) rfl (by kernel_rfl) (by kernel_rfl) (by kernel_rfl) (by kernel_rfl) (by kernel_rfl) (by decide) (by decide) inv (fun _ _ _ h => h) (Or.inl ⟨by rfl, ?_⟩) HSd.out ?_; rotate_left; (focus (intro W y1; obtain ⟨y1, y2⟩ := y1; go_simp; (first | done | with_reducible rfl))); clear inv; intro inv; simp only [List.getElem_toArray, List.getElem_cons_zero, List.getElem_cons_succ, Act.put, List.setIfInBounds_toArray, List.set_cons_zero, List.set_cons_succ]
      refine wpAnyG_take (i := 2) (v := ?_) rfl (by kernel_rfl) (by kernel_rfl) (by kernel_rfl) (by kernel_rfl) (by kernel_rfl) (by decide) (by decide) inv (fun _ _ _ h => h) (Or.inl ⟨by rfl, ?_⟩) HSd.out ?_; rotate_left; (focus (intro W y1; obtain ⟨y1, y2⟩ := y1; go_simp; (first | done | with_reducible rfl))); clear inv; intro inv; simp only [List.getElem_toArray, List.getElem_cons_zero, List.getElem_cons_succ, Act.put, List.setIfInBounds_toArray, List.set_cons_zero, List.set_cons_succ]
      refine wpAnyG_take (i := 3) (v := ?_) rfl (by kernel_rfl) (by kernel_rfl) (by kernel_rfl) (by kernel_rfl) (by kernel_rfl) (by decide) (by decide) inv (fun _ _ _ h => h) (Or.inl ⟨by rfl, ?_⟩) HSd.out ?_; rotate_left; (focus (intro W y1; obtain ⟨y1, y2⟩ := y1; go_simp; (first | done | with_reducible rfl))); clear inv; intro inv; simp only [List.getElem_toArray, List.getElem_cons_zero, List.getElem_cons_succ, Act.put, List.setIfInBounds_toArray, List.set_cons_zero, List.set_cons_succ]
      refine wpAnyG_take (i := 5) (v := ?_) rfl (by kernel_rfl) (by kernel_rfl) (by kernel_rfl) (by kernel_rfl) (by kernel_rfl) (by decide) (by decide) inv (fun _ _ _ h => h) (Or.inl ⟨by rfl, ?_⟩) HSd.out ?_; rotate_left; (focus (intro W y1; obtain ⟨y1, y2⟩ := y1; go_simp; (first | done | with_reducible rfl))); clear inv; intro inv; simp only [List.getElem_toArray, List.getElem_cons_zero, List.getElem_cons_succ, Act.put, List.setIfInBounds_toArray, List.set_cons_zero, List.set_cons_succ]
      have HInv := Lib.hid inv
      clear inv
      refine wpAnyG_one (i := 4) (by kernel_rfl) rfl rfl fun K hK => ?_
      go_simp
      refine (HF.out _).mono ?_
      rintro e w5 ⟨A, c1, A2, c2, rfl, hR, hb⟩
      have HBx4 := Lib.hid (show Below w3.heap.size w3 w5 from pt HB0.out hb)
      have HR := Lib.hid hR
      clear hR
      unfold ratV
      refine hK.out _ _ (fun _ => HSS.out _ HBx4.out) ?_
      clear hK K hb
      replace HInv := Lib.hid (inv_one (i := 4) HInv.out (by kernel_rfl) (by decide))
      have HSe := Lib.hid (HSc.out.past HBx4.out)
      have HN := Lib.hid (HStep.out w5 A c1 A2 c2 HSe.out HR.out)
      have HFe := Lib.hid ((HFc.out.past HBx4.out).far (p := ⟨n0 + 1, i, none⟩) (u := .int .i64 (hoursU x y)) (Nat.ne_of_gt (Nat.lt_trans (Nat.lt_succ_self _) HZ.out)))
      obtain ⟨⟨cs, k1, k2, k3⟩, ⟨ds, g1, g2, g3⟩, hB5, hz5⟩ := HSe.out
      have kc : w5.cell? ⟨n0 + 1, i, none⟩ = some (cs[i]'(by rw [k2]; exact HI.out)) := k1.cellAt i (Array.getElem?_eq_getElem _)
      have kf := k1.frozen i
      have kl := k1.lt
      have G1 := Lib.hid (g1.far (p := ⟨n0 + 1, i, none⟩) (u := .int .i64 (hoursU x y)) (Nat.succ_ne_self _))
      clear k1 k3 g1 g3 hB5 hz5
      refine wpAnyG_one (i := 6) (by kernel_rfl) rfl rfl fun K hK => ?_
      go_simp
      refine hK.out _ _ (fun _ => ⟨HFe.out.cellAt 0 rfl, HFe.out.cellAt 1 rfl⟩) ?_
      clear hK K kc kf kl
      replace HInv := Lib.hid (inv_oneM (i := 6) HInv.out (by kernel_rfl) (by decide))
      generalize w5.setCell ⟨n0 + 1, i, none⟩ (.int .i64 (hoursU x y)) = w6 at *
      replace HSd := Lib.hid (show w6.cell? ⟨fb, 0, none⟩ = some (.int .i64 (numU x y)) ∧ w6.cell? ⟨fb, 1, none⟩ = some (.int .i64 (denU x y)) from ⟨HFe.out.cellAt 0 rfl, HFe.out.cellAt 1 rfl⟩)
      have inv := HInv.out
      clear HInv
      refine wpAnyG_take (i := 7) (v := ?_) rfl (by kernel_rfl) (by kernel_rfl) (by kernel_rfl) (by kernel_rfl) (by kernel_rfl) (by decide) (by decide) inv (fun _ _ _ h => h) (Or.inl ⟨by rfl, ?_⟩) HSd.out ?_; rotate_left; (focus (intro W y1; obtain ⟨y1, y2⟩ := y1; go_simp; (first | done | with_reducible rfl))); clear inv; intro inv; simp only [List.getElem_toArray, List.getElem_cons_zero, List.getElem_cons_succ, Act.put, List.setIfInBounds_toArray, List.set_cons_zero, List.set_cons_succ]
      have HInv := Lib.hid inv
      clear inv
      have e0 : w6.cell? ⟨n0 + 1 + 1, i * 4, none⟩ = some (ds[i * 4]'(by rw [g2]; have := HI.out; omega)) := G1.out.cellAt _ (Array.getElem?_eq_getElem _)
      have e1 : w6.cell? ⟨n0 + 1 + 1, i * 4 + 1, none⟩ = some (ds[i * 4 + 1]'(by rw [g2]; have := HI.out; omega)) := G1.out.cellAt _ (Array.getElem?_eq_getElem _)
      have e2 : w6.cell? ⟨n0 + 1 + 1, i * 4 + 2, none⟩ = some (ds[i * 4 + 2]'(by rw [g2]; have := HI.out; omega)) := G1.out.cellAt _ (Array.getElem?_eq_getElem _)
      have e3 : w6.cell? ⟨n0 + 1 + 1, i * 4 + 3, none⟩ = some (ds[i * 4 + 3]'(by rw [g2]; have := HI.out; omega)) := G1.out.cellAt _ (Array.getElem?_eq_getElem _)
      have y0 := G1.out.frozen (i * 4)
      have y1 := G1.out.frozen (i * 4 + 1)
      have y2 := G1.out.frozen (i * 4 + 2)
      have y3 := G1.out.frozen (i * 4 + 3)
      have yl := G1.out.lt
      refine wpAnyG_one (i := 8) (by kernel_rfl) rfl rfl fun K hK => ?_
      go_simp
      refine hK.out _ _ (fun h => absurd h (by decide)) ?_
      clear hK K e0 e1 e2 e3 y0 y1 y2 y3 yl
      refine wpAnyG_done (by kernel_rfl) ?_
      clear HInv
      clear HSS HSd HB0
      clear HSe HFe G1
      go_wp2
      go_roundw
      case rel => exact ⟨i + 1, by go_num, HI.out, HN.out⟩
      case measure => have := HI.out; simp [intOf]; omega
    · as_aux_lemma =>
      obtain rfl : i = 4 := Nat.le_antisymm hi (Nat.le_of_not_lt hlt)
      obtain ⟨ha, hb, hc⟩ := HOk.out
      obtain ⟨⟨cs, k1, k2, k3⟩, ⟨ds, g1, g2, g3⟩, hB5, hz5⟩ := HSt.out
      have HBw := Lib.hid (HQ0.out.trans (hB5.mono (Nat.le_succ_of_le HN0.out)))
      obtain rfl := arr_lit (cs := cs) (L := [.int .i64 (chH a b c 0), .int .i64 (chH a b c 1), .int .i64 (chH a b c 2), .int .i64 (chH a b c 3)]) k2 (fun k hk => by
        have hk4 : k < 4 := hk
        rcases (show k = 0 ∨ k = 1 ∨ k = 2 ∨ k = 3 by omega) with rfl | rfl | rfl | rfl
        · exact k3 0 (by decide)
        · exact k3 1 (by decide)
        · exact k3 2 (by decide)
        · exact k3 3 (by decide))
      obtain ⟨A0, c0, B0, d0, p0, p1, p2, p3, R0⟩ := g3 0 (by decide)
      obtain ⟨A1, c1, B1, d1, p4, p5, p6, p7, R1⟩ := g3 1 (by decide)
      obtain ⟨A2, c2, B2, d2, p8, p9, pa_, pb_, R2⟩ := g3 2 (by decide)
      obtain ⟨A3, c3, B3, d3, pc_, pd_, pe_, pf_, R3⟩ := g3 3 (by decide)
      obtain rfl := arr_lit (cs := ds) (L := [.int .i64 (signD (chS a b c 0).num), .slice A0 (dl (chS a b c 0).num) c0, .int .i64 (signD ((chS a b c 0).den : Int)), .slice B0 (dl ((chS a b c 0).den : Int)) d0, .int .i64 (signD (chS a b c 1).num), .slice A1 (dl (chS a b c 1).num) c1, .int .i64 (signD ((chS a b c 1).den : Int)), .slice B1 (dl ((chS a b c 1).den : Int)) d1, .int .i64 (signD (chS a b c 2).num), .slice A2 (dl (chS a b c 2).num) c2, .int .i64 (signD ((chS a b c 2).den : Int)), .slice B2 (dl ((chS a b c 2).den : Int)) d2, .int .i64 (signD (chS a b c 3).num), .slice A3 (dl (chS a b c 3).num) c3, .int .i64 (signD ((chS a b c 3).den : Int)), .slice B3 (dl ((chS a b c 3).den : Int)) d3]) g2 (fun k hk => by
        have hk4 : k < 16 := hk
        rcases (show k = 0 ∨ k = 1 ∨ k = 2 ∨ k = 3 ∨ k = 4 ∨ k = 5 ∨ k = 6 ∨ k = 7 ∨ k = 8 ∨ k = 9 ∨ k = 10 ∨ k = 11 ∨ k = 12 ∨ k = 13 ∨ k = 14 ∨ k = 15 by omega) with rfl | rfl | rfl | rfl | rfl | rfl | rfl | rfl | rfl | rfl | rfl | rfl | rfl | rfl | rfl | rfl
        · exact p0
        · exact p1
        · exact p2
        · exact p3
        · exact p4
        · exact p5
        · exact p6
        · exact p7
        · exact p8
        · exact p9
        · exact pa_
        · exact pb_
        · exact pc_
        · exact pd_
        · exact pe_
        · exact pf_)
      clear p0 p1 p2 p3 p4 p5 p6 p7 p8 p9 pa_ pb_ pc_ pd_ pe_ pf_ g3 k3 g2 k2 hB5 hz5 HSt HQ0 HUB HW1 HW2 HW3 HS HT HP
      have HH4 := Lib.hid k1
      have HS4 := Lib.hid g1
      have HR0 := Lib.hid R0
      have HR1 := Lib.hid R1
      have HR2 := Lib.hid R2
      have HR3 := Lib.hid R3
      obtain ⟨m1, m2⟩ := chS_prod ha hb hc
      have t0 := chS_rb ha hb hc 0
      have t1 := chS_rb ha hb hc 1
      have t2 := chS_rb ha hb hc 2
      have t3 := chS_rb ha hb hc 3
      have HM1 := Lib.hid (show ∀ W, RatAt W A0 c0 B0 d0 (chS a b c 0) → RatAt W A1 c1 B1 d1 (chS a b c 1) → Calls Tryz.prog 24 #[.agg #[.int .i64 (signD (chS a b c 0).num), .slice A0 (dl (chS a b c 0).num) c0, .int .i64 (signD ((chS a b c 0).den : Int)), .slice B0 (dl ((chS a b c 0).den : Int)) d0], .agg #[.int .i64 (signD (chS a b c 1).num), .slice A1 (dl (chS a b c 1).num) c1, .int .i64 (signD ((chS a b c 1).den : Int)), .slice B1 (dl ((chS a b c 1).den : Int)) d1]] W (RatRet W (chS a b c 2)) from fun W h1 h2 => by
        have h := ratioMul_any (chS a b c 0) (chS a b c 1) 3 A0 c0 B0 d0 A1 c1 B1 d1 W h1 h2 t0 t1 (by decide)
        rw [m1] at h
        exact h)
      have HM2 := Lib.hid (show ∀ W, RatAt W A0 c0 B0 d0 (chS a b c 0) → RatAt W A3 c3 B3 d3 (chS a b c 3) → Calls Tryz.prog 24 #[.agg #[.int .i64 (signD (chS a b c 0).num), .slice A0 (dl (chS a b c 0).num) c0, .int .i64 (signD ((chS a b c 0).den : Int)), .slice B0 (dl ((chS a b c 0).den : Int)) d0], .agg #[.int .i64 (signD (chS a b c 3).num), .slice A3 (dl (chS a b c 3).num) c3, .int .i64 (signD ((chS a b c 3).den : Int)), .slice B3 (dl ((chS a b c 3).den : Int)) d3]] W (RatRet W ((1 : Int) : Rat)) from fun W h1 h2 => by
        have h := ratioMul_any (chS a b c 0) (chS a b c 3) 3 A0 c0 B0 d0 A3 c3 B3 d3 W h1 h2 t0 t3 (by decide)
        rw [m2] at h
        exact h)
      have HI1 := Lib.hid (fun W => ratioInt_any 1 W (by decide) (by decide))
      have HC1 := Lib.hid (show ∀ W B d B' d', RatAt W A2 c2 B2 d2 (chS a b c 2) → RatAt W B d B' d' (chS a b c 2) → Calls Tryz.prog 23 #[.agg #[.int .i64 (signD (chS a b c 2).num), .slice A2 (dl (chS a b c 2).num) c2, .int .i64 (signD ((chS a b c 2).den : Int)), .slice B2 (dl ((chS a b c 2).den : Int)) d2], .agg #[.int .i64 (signD (chS a b c 2).num), .slice B (dl (chS a b c 2).num) d, .int .i64 (signD ((chS a b c 2).den : Int)), .slice B' (dl ((chS a b c 2).den : Int)) d']] W fun e w' => e = .returned (.int .i64 0) ∧ Below W.heap.size W w' from fun W B d B' d' h1 h2 => cmp_same W A2 c2 B2 d2 B d B' d' h1 h2 (t2.more (by decide)))
      have HC2 := Lib.hid (show ∀ W A c A' c' B d B' d', RatAt W A c A' c' ((1 : Int) : Rat) → RatAt W B d B' d' ((1 : Int) : Rat) → Calls Tryz.prog 23 #[.agg #[.int .i64 (signD ((1 : Int) : Rat).num), .slice A (dl ((1 : Int) : Rat).num) c, .int .i64 (signD (((1 : Int) : Rat).den : Int)), .slice A' (dl (((1 : Int) : Rat).den : Int)) c'], .agg #[.int .i64 (signD ((1 : Int) : Rat).num), .slice B (dl ((1 : Int) : Rat).num) d, .int .i64 (signD (((1 : Int) : Rat).den : Int)), .slice B' (dl (((1 : Int) : Rat).den : Int)) d']] W fun e w' => e = .returned (.int .i64 0) ∧ Below W.heap.size W w' from fun W A c A' c' B d B' d' h1 h2 => cmp_same W A c A' c' B d B' d' h1 h2 ((rb_int (n := 1) ⟨by decide, by decide⟩).more (by decide)))
      clear m1 m2 t0 t1 t2 t3 R0 R1 R2 R3 k1 g1 ha hb hc HOk hi hlt
      obtain ⟨q1, q2, q3⟩ := comp_chain a b c
      have r0 : 0 ≤ (chH a b c 0) ∧ (chH a b c 0) ≤ 11 := hoursU_range _ _
      have r1 : 0 ≤ (chH a b c 1) ∧ (chH a b c 1) ≤ 11 := hoursU_range _ _
      have r3 : 0 ≤ (chH a b c 3) ∧ (chH a b c 3) ≤ 11 := hoursU_range _ _
      have HK1 := Composed_ok (chH a b c 0) false (chH a b c 1) false (turn_zero r0) (turn_zero r1)
      have HK2 := Composed_ok (chH a b c 0) false (chH a b c 3) false (turn_zero r0) (turn_zero r3)
      have HK3 := Inverse_ok (chH a b c 0) false (turn_zero r0)
      rw [q1] at HK1
      rw [q2] at HK2
      rw [q3] at HK3
      dsimp only at HK1 HK2 HK3
      replace HK1 := Lib.hid HK1
      replace HK2 := Lib.hid HK2
      replace HK3 := Lib.hid HK3
      have hsm := chH_sum a b c
      clear q1 q2 q3 r3
      generalize (chS a b c 0) = s0 at *
      generalize (chS a b c 1) = s1 at *
      generalize (chS a b c 2) = s2 at *
      generalize (chS a b c 3) = s3 at *
      generalize ((1 : Int) : Rat) = s9 at *
      generalize (chH a b c 0) = h0 at *
      generalize (chH a b c 1) = h1 at *
      generalize (chH a b c 2) = h2 at *
      generalize (chH a b c 3) = h3 at *
      obtain ⟨z, hz⟩ : ∃ z, h0 + h1 = z := ⟨_, rfl⟩
      rw [hz] at hsm
      have z0 : 0 ≤ z ∧ z ≤ 22 := by omega
      have e4 : z % 12 = h2 := hsm.symm
      have e2 : z.tmod 12 = h2 := by rw [Int.tmod_eq_emod_of_nonneg z0.1]; exact e4
      have hh2 : 0 ≤ h2 ∧ h2 ≤ 11 := by omega
      have e1 : IntKind.i64.wrap z = z := IntWalk.i64_in _ (by omega)
      have e1' : RowKit.wrap64 z = z := (wrap_eq rfl (by omega)).2
      have e3 : IntKind.i64.wrap h2 = h2 := IntWalk.i64_in _ (by omega)
      have e5 : (h2 != h2) = false := bne_self_eq_false _
      clear hsm r0 r1
      clear z0 hh2
      as_aux_lemma =>
      go_wp2
      obtain ⟨u, rfl⟩ : ∃ u, u = wr := ⟨_, rfl⟩
      have HSS := Lib.hid (show ∀ W, Below u.heap.size u W → W.cell? ⟨n0 + 1, 0, none⟩ = some (.int .i64 h0) ∧ W.cell? ⟨n0 + 1, 1, none⟩ = some (.int .i64 h1) ∧ W.cell? ⟨n0 + 1, 2, none⟩ = some (.int .i64 h2) ∧ W.cell? ⟨n0 + 1, 3, none⟩ = some (.int .i64 h3) ∧ W.cell? ⟨n0 + 1 + 1, 0, none⟩ = some (.int .i64 (signD s0.num)) ∧ W.cell? ⟨n0 + 1 + 1, 1, none⟩ = some (.slice A0 (dl s0.num) c0) ∧ W.cell? ⟨n0 + 1 + 1, 2, none⟩ = some (.int .i64 (signD (s0.den : Int))) ∧ W.cell? ⟨n0 + 1 + 1, 3, none⟩ = some (.slice B0 (dl (s0.den : Int)) d0) ∧ W.cell? ⟨n0 + 1 + 1, 4, none⟩ = some (.int .i64 (signD s1.num)) ∧ W.cell? ⟨n0 + 1 + 1, 5, none⟩ = some (.slice A1 (dl s1.num) c1) ∧ W.cell? ⟨n0 + 1 + 1, 6, none⟩ = some (.int .i64 (signD (s1.den : Int))) ∧ W.cell? ⟨n0 + 1 + 1, 7, none⟩ = some (.slice B1 (dl (s1.den : Int)) d1) ∧ W.cell? ⟨n0 + 1 + 1, 8, none⟩ = some (.int .i64 (signD s2.num)) ∧ W.cell? ⟨n0 + 1 + 1, 9, none⟩ = some (.slice A2 (dl s2.num) c2) ∧ W.cell? ⟨n0 + 1 + 1, 10, none⟩ = some (.int .i64 (signD (s2.den : Int))) ∧ W.cell? ⟨n0 + 1 + 1, 11, none⟩ = some (.slice B2 (dl (s2.den : Int)) d2) ∧ W.cell? ⟨n0 + 1 + 1, 12, none⟩ = some (.int .i64 (signD s3.num)) ∧ W.cell? ⟨n0 + 1 + 1, 13, none⟩ = some (.slice A3 (dl s3.num) c3) ∧ W.cell? ⟨n0 + 1 + 1, 14, none⟩ = some (.int .i64 (signD (s3.den : Int))) ∧ W.cell? ⟨n0 + 1 + 1, 15, none⟩ = some (.slice B3 (dl (s3.den : Int)) d3) from fun W hW => ⟨(HH4.out.past hW).cellAt 0 rfl, (HH4.out.past hW).cellAt 1 rfl, (HH4.out.past hW).cellAt 2 rfl, (HH4.out.past hW).cellAt 3 rfl, (HS4.out.past hW).cellAt 0 rfl, (HS4.out.past hW).cellAt 1 rfl, (HS4.out.past hW).cellAt 2 rfl, (HS4.out.past hW).cellAt 3 rfl, (HS4.out.past hW).cellAt 4 rfl, (HS4.out.past hW).cellAt 5 rfl, (HS4.out.past hW).cellAt 6 rfl, (HS4.out.past hW).cellAt 7 rfl, (HS4.out.past hW).cellAt 8 rfl, (HS4.out.past hW).cellAt 9 rfl, (HS4.out.past hW).cellAt 10 rfl, (HS4.out.past hW).cellAt 11 rfl, (HS4.out.past hW).cellAt 12 rfl, (HS4.out.past hW).cellAt 13 rfl, (HS4.out.past hW).cellAt 14 rfl, (HS4.out.past hW).cellAt 15 rfl⟩)
      refine wp_region_G 29 follows_mixed (fun W => W.cell? ⟨n0 + 1, 0, none⟩ = some (.int .i64 h0) ∧ W.cell? ⟨n0 + 1, 1, none⟩ = some (.int .i64 h1) ∧ W.cell? ⟨n0 + 1, 2, none⟩ = some (.int .i64 h2) ∧ W.cell? ⟨n0 + 1, 3, none⟩ = some (.int .i64 h3) ∧ W.cell? ⟨n0 + 1 + 1, 0, none⟩ = some (.int .i64 (signD s0.num)) ∧ W.cell? ⟨n0 + 1 + 1, 1, none⟩ = some (.slice A0 (dl s0.num) c0) ∧ W.cell? ⟨n0 + 1 + 1, 2, none⟩ = some (.int .i64 (signD (s0.den : Int))) ∧ W.cell? ⟨n0 + 1 + 1, 3, none⟩ = some (.slice B0 (dl (s0.den : Int)) d0) ∧ W.cell? ⟨n0 + 1 + 1, 4, none⟩ = some (.int .i64 (signD s1.num)) ∧ W.cell? ⟨n0 + 1 + 1, 5, none⟩ = some (.slice A1 (dl s1.num) c1) ∧ W.cell? ⟨n0 + 1 + 1, 6, none⟩ = some (.int .i64 (signD (s1.den : Int))) ∧ W.cell? ⟨n0 + 1 + 1, 7, none⟩ = some (.slice B1 (dl (s1.den : Int)) d1) ∧ W.cell? ⟨n0 + 1 + 1, 8, none⟩ = some (.int .i64 (signD s2.num)) ∧ W.cell? ⟨n0 + 1 + 1, 9, none⟩ = some (.slice A2 (dl s2.num) c2) ∧ W.cell? ⟨n0 + 1 + 1, 10, none⟩ = some (.int .i64 (signD (s2.den : Int))) ∧ W.cell? ⟨n0 + 1 + 1, 11, none⟩ = some (.slice B2 (dl (s2.den : Int)) d2) ∧ W.cell? ⟨n0 + 1 + 1, 12, none⟩ = some (.int .i64 (signD s3.num)) ∧ W.cell? ⟨n0 + 1 + 1, 13, none⟩ = some (.slice A3 (dl s3.num) c3) ∧ W.cell? ⟨n0 + 1 + 1, 14, none⟩ = some (.int .i64 (signD (s3.den : Int))) ∧ W.cell? ⟨n0 + 1 + 1, 15, none⟩ = some (.slice B3 (dl (s3.den : Int)) d3)) (HSS.out _ (pd pr)) ?_
      intro hSd inv
      have HSd := Lib.hid hSd
      clear hSd
      have HB0 := Lib.hid (show Below u.heap.size u u.drew from pd pr)
      refine wpAnyG_take (i := 0) (v := ?_) rfl (by kernel_rfl) (by kernel_rfl) (by kernel_rfl) (by kernel_rfl) (by kernel_rfl) (by decide) (by decide) inv (fun _ _ _ h => h) (Or.inl ⟨by rfl, ?_⟩) HSd.out ?_; rotate_left; (focus (intro W y1; obtain ⟨y1, y2, y3, y4, y5, y6, y7, y8, y9, y10, y11, y12, y13, y14, y15, y16, y17, y18, y19, y20⟩ := y1; go_simp; (first | done | with_reducible rfl))); clear inv; intro inv; simp only [List.getElem_toArray, List.getElem_cons_zero, Act.put, List.setIfInBounds_toArray, List.set_cons_zero, List.set_cons_succ]
      refine wpAnyG_take (i := 1) (v := ?_) rfl (by kernel_rfl) (by kernel_rfl) (by kernel_rfl) (by kernel_rfl) (by kernel_rfl) (by decide) (by decide) inv (fun _ _ _ h => h) (Or.inl ⟨by rfl, ?_⟩) HSd.out ?_; rotate_left; (focus (intro W y1; obtain ⟨y1, y2, y3, y4, y5, y6, y7, y8, y9, y10, y11, y12, y13, y14, y15, y16, y17, y18, y19, y20⟩ := y1; go_simp; (first | done | with_reducible rfl))); clear inv; intro inv; simp only [List.getElem_toArray, List.getElem_cons_zero, List.getElem_cons_succ, Act.put, List.setIfInBounds_toArray, List.set_cons_zero, List.set_cons_succ]
      refine wpAnyG_take (i := 2) (v := ?_) rfl (by kernel_rfl) (by kernel_rfl) (by kernel_rfl) (by kernel_rfl) (by kernel_rfl) (by decide) (by decide) inv (fun _ _ _ h => h) (Or.inl ⟨by rfl, ?_⟩) HSd.out ?_; rotate_left; (focus (intro W y1; obtain ⟨y1, y2, y3, y4, y5, y6, y7, y8, y9, y10, y11, y12, y13, y14, y15, y16, y17, y18, y19, y20⟩ := y1; go_simp; (first | done | with_reducible rfl))); clear inv; intro inv; simp only [List.getElem_toArray, List.getElem_cons_zero, List.getElem_cons_succ, Act.put, List.setIfInBounds_toArray, List.set_cons_zero, List.set_cons_succ]
      refine wpAnyG_take (i := 3) (v := ?_) rfl (by kernel_rfl) (by kernel_rfl) (by kernel_rfl) (by kernel_rfl) (by kernel_rfl) (by decide) (by decide) inv (fun _ _ _ h => h) (Or.inl ⟨by rfl, ?_⟩) HSd.out ?_; rotate_left; (focus (intro W y1; obtain ⟨y1, y2, y3, y4, y5, y6, y7, y8, y9, y10, y11, y12, y13, y14, y15, y16, y17, y18, y19, y20⟩ := y1; go_simp; (first | done | with_reducible rfl))); clear inv; intro inv; simp only [List.getElem_toArray, List.getElem_cons_zero, List.getElem_cons_succ, Act.put, List.setIfInBounds_toArray, List.set_cons_zero, List.set_cons_succ]
      refine wpAnyG_take (i := 4) (v := ?_) rfl (by kernel_rfl) (by kernel_rfl) (by kernel_rfl) (by kernel_rfl) (by kernel_rfl) (by decide) (by decide) inv (fun _ _ _ h => h) (Or.inl ⟨by rfl, ?_⟩) HSd.out ?_; rotate_left; (focus (intro W y1; obtain ⟨y1, y2, y3, y4, y5, y6, y7, y8, y9, y10, y11, y12, y13, y14, y15, y16, y17, y18, y19, y20⟩ := y1; go_simp; (first | done | with_reducible rfl))); clear inv; intro inv; simp only [List.getElem_toArray, List.getElem_cons_zero, List.getElem_cons_succ, Act.put, List.setIfInBounds_toArray, List.set_cons_zero, List.set_cons_succ]
      refine wpAnyG_take (i := 5) (v := ?_) rfl (by kernel_rfl) (by kernel_rfl) (by kernel_rfl) (by kernel_rfl) (by kernel_rfl) (by decide) (by decide) inv (fun _ _ _ h => h) (Or.inl ⟨by rfl, ?_⟩) HSd.out ?_; rotate_left; (focus (intro W y1; obtain ⟨y1, y2, y3, y4, y5, y6, y7, y8, y9, y10, y11, y12, y13, y14, y15, y16, y17, y18, y19, y20⟩ := y1; go_simp; (first | done | with_reducible rfl))); clear inv; intro inv; simp only [List.getElem_toArray, List.getElem_cons_zero, List.getElem_cons_succ, Act.put, List.setIfInBounds_toArray, List.set_cons_zero, List.set_cons_succ]
      refine wpAnyG_take (i := 6) (v := ?_) rfl (by kernel_rfl) (by kernel_rfl) (by kernel_rfl) (by kernel_rfl) (by kernel_rfl) (by decide) (by decide) inv (fun _ _ _ h => h) (Or.inl ⟨by rfl, ?_⟩) HSd.out ?_; rotate_left; (focus (intro W y1; obtain ⟨y1, y2, y3, y4, y5, y6, y7, y8, y9, y10, y11, y12, y13, y14, y15, y16, y17, y18, y19, y20⟩ := y1; go_simp; (first | done | with_reducible rfl))); clear inv; intro inv; simp only [List.getElem_toArray, List.getElem_cons_zero, List.getElem_cons_succ, Act.put, List.setIfInBounds_toArray, List.set_cons_zero, List.set_cons_succ]
      refine wpAnyG_take (i := 7) (v := ?_) rfl (by kernel_rfl) (by kernel_rfl) (by kernel_rfl) (by kernel_rfl) (by kernel_rfl) (by decide) (by decide) inv (fun _ _ _ h => h) (Or.inl ⟨by rfl, ?_⟩) HSd.out ?_; rotate_left; (focus (intro W y1; obtain ⟨y1, y2, y3, y4, y5, y6, y7, y8, y9, y10, y11, y12, y13, y14, y15, y16, y17, y18, y19, y20⟩ := y1; go_simp; (first | done | with_reducible rfl))); clear inv; intro inv; simp only [List.getElem_toArray, List.getElem_cons_zero, List.getElem_cons_succ, Act.put, List.setIfInBounds_toArray, List.set_cons_zero, List.set_cons_succ]
      refine wpAnyG_take (i := 8) (v := ?_) rfl (by kernel_rfl) (by kernel_rfl) (by kernel_rfl) (by kernel_rfl) (by kernel_rfl) (by decide) (by decide) inv (fun _ _ _ h => h) (Or.inl ⟨by rfl, ?_⟩) HSd.out ?_; rotate_left; (focus (intro W y1; obtain ⟨y1, y2, y3, y4, y5, y6, y7, y8, y9, y10, y11, y12, y13, y14, y15, y16, y17, y18, y19, y20⟩ := y1; go_simp; (first | done | with_reducible rfl))); clear inv; intro inv; simp only [List.getElem_toArray, List.getElem_cons_zero, List.getElem_cons_succ, Act.put, List.setIfInBounds_toArray, List.set_cons_zero, List.set_cons_succ]
      refine wpAnyG_take (i := 9) (v := ?_) rfl (by kernel_rfl) (by kernel_rfl) (by kernel_rfl) (by kernel_rfl) (by kernel_rfl) (by decide) (by decide) inv (fun _ _ _ h => h) (Or.inl ⟨by rfl, ?_⟩) HSd.out ?_; rotate_left; (focus (intro W y1; obtain ⟨y1, y2, y3, y4, y5, y6, y7, y8, y9, y10, y11, y12, y13, y14, y15, y16, y17, y18, y19, y20⟩ := y1; go_simp; (first | done | with_reducible rfl))); clear inv; intro inv; simp only [List.getElem_toArray, List.getElem_cons_zero, List.getElem_cons_succ, Act.put, List.setIfInBounds_toArray, List.set_cons_zero, List.set_cons_succ]
      refine wpAnyG_take (i := 10) (v := ?_) rfl (by kernel_rfl) (by kernel_rfl) (by kernel_rfl) (by kernel_rfl) (by kernel_rfl) (by decide) (by decide) inv (fun _ _ _ h => h) (Or.inl ⟨by rfl, ?_⟩) HSd.out ?_; rotate_left; (focus (intro W y1; obtain ⟨y1, y2, y3, y4, y5, y6, y7, y8, y9, y10, y11, y12, y13, y14, y15, y16, y17, y18, y19, y20⟩ := y1; go_simp; (first | done | with_reducible rfl))); clear inv; intro inv; simp only [List.getElem_toArray, List.getElem_cons_zero, List.getElem_cons_succ, Act.put, List.setIfInBounds_toArray, List.set_cons_zero, List.set_cons_succ]
      refine wpAnyG_take (i := 11) (v := ?_) rfl (by kernel_rfl) (by kernel_rfl) (by kernel_rfl) (by kernel_rfl) (by kernel_rfl) (by decide) (by decide) inv (fun _ _ _ h => h) (Or.inl ⟨by rfl, ?_⟩) HSd.out ?_; rotate_left; (focus (intro W y1; obtain ⟨y1, y2, y3, y4, y5, y6, y7, y8, y9, y10, y11, y12, y13, y14, y15, y16, y17, y18, y19, y20⟩ := y1; go_simp; (first | done | with_reducible rfl))); clear inv; intro inv; simp only [List.getElem_toArray, List.getElem_cons_zero, List.getElem_cons_succ, Act.put, List.setIfInBounds_toArray, List.set_cons_zero, List.set_cons_succ]
      refine wpAnyG_take (i := 12) (v := ?_) rfl (by kernel_rfl) (by kernel_rfl) (by kernel_rfl) (by kernel_rfl) (by kernel_rfl) (by decide) (by decide) inv (fun _ _ _ h => h) (Or.inl ⟨by rfl, ?_⟩) HSd.out ?_; rotate_left; (focus (intro W y1; obtain ⟨y1, y2, y3, y4, y5, y6, y7, y8, y9, y10, y11, y12, y13, y14, y15, y16, y17, y18, y19, y20⟩ := y1; go_simp; (first | done | with_reducible rfl))); clear inv; intro inv; simp only [List.getElem_toArray, List.getElem_cons_zero, List.getElem_cons_succ, Act.put, List.setIfInBounds_toArray, List.set_cons_zero, List.set_cons_succ]
      refine wpAnyG_take (i := 13) (v := ?_) rfl (by kernel_rfl) (by kernel_rfl) (by kernel_rfl) (by kernel_rfl) (by kernel_rfl) (by decide) (by decide) inv (fun _ _ _ h => h) (Or.inl ⟨by rfl, ?_⟩) HSd.out ?_; rotate_left; (focus (intro W y1; obtain ⟨y1, y2, y3, y4, y5, y6, y7, y8, y9, y10, y11, y12, y13, y14, y15, y16, y17, y18, y19, y20⟩ := y1; go_simp; (first | done | with_reducible rfl))); clear inv; intro inv; simp only [List.getElem_toArray, List.getElem_cons_zero, List.getElem_cons_succ, Act.put, List.setIfInBounds_toArray, List.set_cons_zero, List.set_cons_succ]
      refine wpAnyG_take (i := 14) (v := ?_) rfl (by kernel_rfl) (by kernel_rfl) (by kernel_rfl) (by kernel_rfl) (by kernel_rfl) (by decide) (by decide) inv (fun _ _ _ h => h) (Or.inl ⟨by rfl, ?_⟩) HSd.out ?_; rotate_left; (focus (intro W y1; obtain ⟨y1, y2, y3, y4, y5, y6, y7, y8, y9, y10, y11, y12, y13, y14, y15, y16, y17, y18, y19, y20⟩ := y1; go_simp; (first | done | with_reducible rfl))); clear inv; intro inv; simp only [List.getElem_toArray, List.getElem_cons_zero, List.getElem_cons_succ, Act.put, List.setIfInBounds_toArray, List.set_cons_zero, List.set_cons_succ]
      refine wpAnyG_take (i := 15) (v := ?_) rfl (by kernel_rfl) (by kernel_rfl) (by kernel_rfl) (by kernel_rfl) (by kernel_rfl) (by decide) (by decide) inv (fun _ _ _ h => h) (Or.inl ⟨by rfl, ?_⟩) HSd.out ?_; rotate_left; (focus (intro W y1; obtain ⟨y1, y2, y3, y4, y5, y6, y7, y8, y9, y10, y11, y12, y13, y14, y15, y16, y17, y18, y19, y20⟩ := y1; go_simp; (first | done | with_reducible rfl))); clear inv; intro inv; simp only [List.getElem_toArray, List.getElem_cons_zero, List.getElem_cons_succ, Act.put, List.setIfInBounds_toArray, List.set_cons_zero, List.set_cons_succ]
      have HInv := Lib.hid inv
      clear inv
      refine wpAnyG_oneW (i := 16) (by kernel_rfl) rfl (by rfl) fun K hK => ?_
      go_simp
      refine (HM1.out _ (HR0.out.past HB0.out) (HR1.out.past HB0.out)).mono ?_
      rintro e w1 ⟨Aa, ca, Ba, da, rfl, h1_, hb⟩
      have HBx16 := Lib.hid (show Below u.heap.size u w1 from pt HB0.out hb)
      have H1 := Lib.hid h1_
      clear h1_
      unfold ratV
      refine hK.out _ _ (fun _ => HSS.out _ HBx16.out) ?_
      clear hK K hb
      replace HInv := Lib.hid (inv_oneM (i := 16) HInv.out (by kernel_rfl) (by decide))
      refine wpAnyG_oneW (i := 17) (by kernel_rfl) rfl (by rfl) fun K hK => ?_
      go_simp
      refine (HC1.out _ Aa ca Ba da (HR2.out.past HBx16.out) H1.out).mono ?_
      rintro e w2 ⟨rfl, hb⟩
      have HBx17 := Lib.hid (show Below u.heap.size u w2 from pt HBx16.out hb)
      refine hK.out _ _ (fun _ => HSS.out _ HBx17.out) ?_
      clear hK K hb
      replace HInv := Lib.hid (inv_oneM (i := 17) HInv.out (by kernel_rfl) (by decide))
      have inv := HInv.out
      clear HInv
      replace HSd := Lib.hid (HSS.out _ HBx17.out)
      refine wpAnyG_take (i := 18) (v := ?_) rfl (by kernel_rfl) (by kernel_rfl) (by kernel_rfl) (by kernel_rfl) (by kernel_rfl) (by decide) (by decide) inv (fun _ _ _ h => h) (Or.inl ⟨by rfl, ?_⟩) HSd.out ?_; rotate_left; (focus (intro W y1; obtain ⟨y1, y2, y3, y4, y5, y6, y7, y8, y9, y10, y11, y12, y13, y14, y15, y16, y17, y18, y19, y20⟩ := y1; go_simp; (first | done | with_reducible rfl))); clear inv; intro inv; simp only [List.getElem_toArray, List.getElem_cons_zero, List.getElem_cons_succ, Act.put, List.setIfInBounds_toArray, List.set_cons_zero, List.set_cons_succ]
      refine wpAnyG_take (i := 19) (v := ?_) rfl (by kernel_rfl) (by kernel_rfl) (by kernel_rfl) (by kernel_rfl) (by kernel_rfl) (by decide) (by decide) inv (fun _ _ _ h => h) (Or.inl ⟨by rfl, ?_⟩) HSd.out ?_; rotate_left; (focus (intro W y1; obtain ⟨y1, y2, y3, y4, y5, y6, y7, y8, y9, y10, y11, y12, y13, y14, y15, y16, y17, y18, y19, y20⟩ := y1; go_simp; (first | done | with_reducible rfl))); clear inv; intro inv; simp only [List.getElem_toArray, List.getElem_cons_zero, List.getElem_cons_succ, Act.put, List.setIfInBounds_toArray, List.set_cons_zero, List.set_cons_succ]
      refine wpAnyG_take (i := 20) (v := ?_) rfl (by kernel_rfl) (by kernel_rfl) (by kernel_rfl) (by kernel_rfl) (by kernel_rfl) (by decide) (by decide) inv (fun _ _ _ h => h) (Or.inl ⟨by rfl, ?_⟩) HSd.out ?_; rotate_left; (focus (intro W y1; obtain ⟨y1, y2, y3, y4, y5, y6, y7, y8, y9, y10, y11, y12, y13, y14, y15, y16, y17, y18, y19, y20⟩ := y1; go_simp; (first | done | with_reducible rfl))); clear inv; intro inv; simp only [List.getElem_toArray, List.getElem_cons_zero, List.getElem_cons_succ, Act.put, List.setIfInBounds_toArray, List.set_cons_zero, List.set_cons_succ]
      refine wpAnyG_take (i := 21) (v := ?_) rfl (by kernel_rfl) (by kernel_rfl) (by kernel_rfl) (by kernel_rfl) (by kernel_rfl) (by decide) (by decide) inv (fun _ _ _ h => h) (Or.inl ⟨by rfl, ?_⟩) HSd.out ?_; rotate_left; (focus (intro W y1; obtain ⟨y1, y2, y3, y4, y5, y6, y7, y8, y9, y10, y11, y12, y13, y14, y15, y16, y17, y18, y19, y20⟩ := y1; go_simp; (first | done | with_reducible rfl))); clear inv; intro inv; simp only [List.getElem_toArray, List.getElem_cons_zero, List.getElem_cons_succ, Act.put, List.setIfInBounds_toArray, List.set_cons_zero, List.set_cons_succ]
      refine wpAnyG_take (i := 22) (v := ?_) rfl (by kernel_rfl) (by kernel_rfl) (by kernel_rfl) (by kernel_rfl) (by kernel_rfl) (by decide) (by decide) inv (fun _ _ _ h => h) (Or.inl ⟨by rfl, ?_⟩) HSd.out ?_; rotate_left; (focus (intro W y1; obtain ⟨y1, y2, y3, y4, y5, y6, y7, y8, y9, y10, y11, y12, y13, y14, y15, y16, y17, y18, y19, y20⟩ := y1; go_simp; (first | done | with_reducible rfl))); clear inv; intro inv; simp only [List.getElem_toArray, List.getElem_cons_zero, List.getElem_cons_succ, Act.put, List.setIfInBounds_toArray, List.set_cons_zero, List.set_cons_succ]
      refine wpAnyG_take (i := 23) (v := ?_) rfl (by kernel_rfl) (by kernel_rfl) (by kernel_rfl) (by kernel_rfl) (by kernel_rfl) (by decide) (by decide) inv (fun _ _ _ h => h) (Or.inl ⟨by rfl, ?_⟩) HSd.out ?_; rotate_left; (focus (intro W y1; obtain ⟨y1, y2, y3, y4, y5, y6, y7, y8, y9, y10, y11, y12, y13, y14, y15, y16, y17, y18, y19, y20⟩ := y1; go_simp; (first | done | with_reducible rfl))); clear inv; intro inv; simp only [List.getElem_toArray, List.getElem_cons_zero, List.getElem_cons_succ, Act.put, List.setIfInBounds_toArray, List.set_cons_zero, List.set_cons_succ]
      refine wpAnyG_take (i := 24) (v := ?_) rfl (by kernel_rfl) (by kernel_rfl) (by kernel_rfl) (by kernel_rfl) (by kernel_rfl) (by decide) (by decide) inv (fun _ _ _ h => h) (Or.inl ⟨by rfl, ?_⟩) HSd.out ?_; rotate_left; (focus (intro W y1; obtain ⟨y1, y2, y3, y4, y5, y6, y7, y8, y9, y10, y11, y12, y13, y14, y15, y16, y17, y18, y19, y20⟩ := y1; go_simp; (first | done | with_reducible rfl))); clear inv; intro inv; simp only [List.getElem_toArray, List.getElem_cons_zero, List.getElem_cons_succ, Act.put, List.setIfInBounds_toArray, List.set_cons_zero, List.set_cons_succ]
      have HInv := Lib.hid inv
      clear inv
      refine wpAnyG_oneW (i := 25) (by kernel_rfl) rfl (by rfl) fun K hK => ?_
      go_simp
      refine (HM2.out _ (HR0.out.past HBx17.out) (HR3.out.past HBx17.out)).mono ?_
      rintro e w3 ⟨Ab, cb, Bb, db, rfl, h2_, hb⟩
      have HBx25 := Lib.hid (show Below u.heap.size u w3 from pt HBx17.out hb)
      have H2 := Lib.hid h2_
      clear h2_
      unfold ratV
      refine hK.out _ _ (fun _ => HSS.out _ HBx25.out) ?_
      clear hK K hb
      replace HInv := Lib.hid (inv_oneM (i := 25) HInv.out (by kernel_rfl) (by decide))
      refine wpAnyG_oneW (i := 26) (by kernel_rfl) rfl (by rfl) fun K hK => ?_
      go_simp
      refine (HI1.out _).mono ?_
      rintro e w4 ⟨Ac, cc, Bc, dc, rfl, h3_, hb⟩
      have HBx26 := Lib.hid (show Below u.heap.size u w4 from pt HBx25.out hb)
      have H3 := Lib.hid h3_
      have H2 := Lib.hid (H2.out.past hb)
      clear h3_
      unfold ratV
      refine hK.out _ _ (fun _ => HSS.out _ HBx26.out) ?_
      clear hK K hb
      replace HInv := Lib.hid (inv_oneM (i := 26) HInv.out (by kernel_rfl) (by decide))
      refine wpAnyG_oneW (i := 27) (by kernel_rfl) rfl (by rfl) fun K hK => ?_
      go_simp
      refine (HC2.out _ Ab cb Bb db Ac cc Bc dc H2.out H3.out).mono ?_
      rintro e w5 ⟨rfl, hb⟩
      have HBx27 := Lib.hid (show Below u.heap.size u w5 from pt HBx26.out hb)
      refine hK.out _ _ (fun _ => HSS.out _ HBx27.out) ?_
      clear hK K hb
      replace HInv := Lib.hid (inv_oneM (i := 27) HInv.out (by kernel_rfl) (by decide))
      have inv := HInv.out
      clear HInv
      replace HSd := Lib.hid (HSS.out _ HBx27.out)
      refine wpAnyG_take (i := 28) (v := ?_) rfl (by kernel_rfl) (by kernel_rfl) (by kernel_rfl) (by kernel_rfl) (by kernel_rfl) (by decide) (by decide) inv (fun _ _ _ h => h) (Or.inl ⟨by rfl, ?_⟩) HSd.out ?_; rotate_left; (focus (intro W y1; obtain ⟨y1, y2, y3, y4, y5, y6, y7, y8, y9, y10, y11, y12, y13, y14, y15, y16, y17, y18, y19, y20⟩ := y1; go_simp; (first | done | with_reducible rfl))); clear inv; intro inv; simp only [List.getElem_toArray, List.getElem_cons_zero, List.getElem_cons_succ, Act.put, List.setIfInBounds_toArray, List.set_cons_zero, List.set_cons_succ]
      have HInv := Lib.hid inv
      clear inv
      refine wpAnyG_one (i := 29) (by kernel_rfl) rfl rfl fun K hK => ?_
      go_simp
      refine hK.out _ _ (fun h => absurd h (by decide)) ?_
      clear hK K
      refine wpAnyG_done (by kernel_rfl) ?_
      clear HInv
      clear HSS HSd HB0
      have HV := Lib.hid (show ∀ W, Below w5.heap.size w5 W → Blk W (n0 + 1) 50 #[.int .i64 h0, .int .i64 h1, .int .i64 h2, .int .i64 h3] from fun W hW => HH4.out.past (pt HBx27.out hW))
      have HB5 := Lib.hid (pt HBw.out HBx27.out)
      clear HH4 HS4 HR0 HR1 HR2 HR3 HM1 HM2 HI1 HC1 HC2 HBw HBx16 HBx17 HBx25 HBx26 HBx27 H1 H2 H3
      have x0 := (HV.out _ (Below.refl _ _)).cellAt 0 rfl
      have x1 := (HV.out _ (Below.refl _ _)).cellAt 1 rfl
      have xl := (HV.out _ (Below.refl _ _)).lt
      as_aux_lemma =>
      go_wp2_with (first
        | (go_at_call 26; (first | (with_reducible refine (HK1.out _).mono ?_; rintro e w6 ⟨rfl, hb⟩; have HB6 := Lib.hid (pa (pt (Below.refl _ _) hb) (o := .cells #[.int .i64 h2, .bool false] 69)); have HT6 := Lib.hid (Blk.new w6 69 #[.int .i64 h2, .bool false]); clear x0 x1 xl hb; have x0 := (HV.out _ HB6.out).cellAt 0 rfl; have x3 := (HV.out _ HB6.out).cellAt 3 rfl; have xl := (HV.out _ HB6.out).lt) | (with_reducible refine (HK2.out _).mono ?_; rintro e w7 ⟨rfl, hb⟩; have HB7 := Lib.hid (pa (pt HB6.out hb) (o := .cells #[.int .i64 0, .bool false] 69)); have HT7 := Lib.hid ((HT6.out.past hb).alloc (o := .cells #[.int .i64 0, .bool false] 69)); have HU7 := Lib.hid (Blk.new w7 69 #[.int .i64 0, .bool false]); clear x0 x3 xl hb; have x0 := (HV.out _ HB7.out).cellAt 0 rfl; have xl := (HV.out _ HB7.out).lt)))
        | (go_at_call 27; (with_reducible refine (HK3.out _).mono ?_); rintro e w8 ⟨rfl, hb⟩; have HB8 := Lib.hid (pt HB7.out hb); have HT8 := Lib.hid (HT7.out.past hb); have HU8 := Lib.hid (HU7.out.past hb); clear x0 xl hb; have x2 := (HV.out _ HB8.out).cellAt 2 rfl; have x3 := (HV.out _ HB8.out).cellAt 3 rfl; have xl := (HV.out _ HB8.out).lt; have v0 := HT8.out.cellAt 0 rfl; have v1 := HT8.out.cellAt 1 rfl; have vl := HT8.out.lt; have y0 := HU8.out.cellAt 0 rfl; have y1 := HU8.out.cellAt 1 rfl; have yl := HU8.out.lt))
      go_ret
      exact ⟨rfl, pa (pt HB5.out HB8.out)⟩

theorem chained_any (a b c : Wind) (w : World) (hT : TwIn w) (hP : PatIn w) (hS : StrIn w) :
    Calls Tryz.prog 4 #[.agg #[.int .i64 a.kind, .int .i64 a.turns, .int .i64 a.shift, .bool a.rev], .agg #[.int .i64 b.kind, .int .i64 b.turns, .int .i64 b.shift, .bool b.rev], .agg #[.int .i64 c.kind, .int .i64 c.turns, .int .i64 c.shift, .bool c.rev]] w fun e w' => e = .returned (.bool true) ∧ Below w.heap.size w w' := by
  by_cases h1 : windE a.kind a.turns a.shift = 0
  · have ha : a.ok := windE_ok a.rev h1
    by_cases h2 : windE b.kind b.turns b.shift = 0
    · have hb : b.ok := windE_ok b.rev h2
      by_cases h3 : windE c.kind c.turns c.shift = 0
      · exact chain_main a b c ha hb (windE_ok c.rev h3) w hT hP hS
      · exact chain_e3 a b c ha hb h3 w hT hP hS
    · exact chain_e2 a b c ha h2 w hT hP hS
  · exact chain_e1 a b c h1 w hT hP hS

end Go.Proofs.YtpdkbhjcpddnpaaGreatDoor
end
