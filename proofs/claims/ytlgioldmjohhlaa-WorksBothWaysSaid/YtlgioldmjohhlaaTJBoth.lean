/- WorksBothWays: for every input the law returns true, and nothing that was there is turned (the walk). Lots whose cells lie in memory. -/
import Derived.Test.YtlgioldmjohhlaaTIBoth
import Derived.Test.YtlgioldmjohhlaaTGTraces
namespace Go.Proofs.Ytlgioldmjohhlaa
open Go.RowKit

theorem member_at {xs : List Lot} (h0 : (openLotsV xs).2 = 0) {i : Nat} (hi : i < xs.length) (hn : nameB (nameAt xs i) = true) : memberE xs (nameAt xs i) = 0 := by
  unfold memberE
  rw [h0, hn, show goneB (fromV xs xs.length) (nameAt xs i) = false from fromV_some xs xs.length i hi]
  rfl
theorem lotE_at {xs : List Lot} (h0 : (openLotsV xs).2 = 0) {i : Nat} (hi : i < xs.length) : lotE (xs.getD i default) = 0 := by
  unfold openLotsV at h0
  by_cases hl : 20 < xs.length
  · rw [if_pos hl] at h0; exact absurd h0 (by decide)
  · rw [if_neg hl] at h0
    have hz : lotsE1 xs i = 0 := scan_zero h0 i hi
    unfold lotsE1 at hz
    exact (firstV_zero.1 hz).1


set_option maxHeartbeats 2000000 in
set_option maxRecDepth 100000 in
theorem both_skip (A : Option Addr) (c : Nat) (xs : List Lot) (w : World) (hr : LotsIn w.heap.size w A xs) (hcap : xs.length ≤ c) (h : smallB xs = false ∨ (smallB xs = true ∧ (openLotsV xs).2 ≠ 0)) :
    Calls Try.prog 10 #[.slice A xs.length c] w fun e w' => e = .returned (.bool true) ∧ Below w.heap.size w w' := by
  have HBx := Lib.hid (Below.refl w.heap.size w)
  have hsm := fun W (hW : Below w.heap.size w W) => small_any w.heap.size xs A c W (hr.below hW) hW.size
  rcases h with h | ⟨h, h0⟩
  · rw [h] at hsm
    have HSm := Lib.hid hsm
    clear hr hsm h
    go_enter Try.func10, Try.ntmps10
    go_wp2_with (first
      | (go_at_call 15; refine (awake_any _).mono ?_; rintro e w1 ⟨rfl, hb⟩; replace HBx := Lib.hid (pt HBx.out hb); clear hb)
      | (go_at_call 34; go_must (refine (HSm.out _ HBx.out).mono ?_); rintro e w1 ⟨rfl, hb⟩; replace HBx := Lib.hid (pt HBx.out hb); clear hb))
    go_ret
    exact ⟨rfl, HBx.out⟩
  · have hle := fun W (hW : Below w.heap.size w W) => refLotsErr_any w.heap.size xs A c W (hr.below hW) hW.size (small_lots h) hcap
    rw [h] at hsm
    have HSm := Lib.hid hsm
    have HLe := Lib.hid hle
    have hne : ((openLotsV xs).2 != 0) = true := by simpa using h0
    clear hr hsm h hle h0
    generalize (openLotsV xs).2 = E at *
    go_enter Try.func10, Try.ntmps10
    go_wp2_with (first
      | (go_at_call 15; refine (awake_any _).mono ?_; rintro e w1 ⟨rfl, hb⟩; replace HBx := Lib.hid (pt HBx.out hb); clear hb)
      | (go_at_call 34; go_must (refine (HSm.out _ HBx.out).mono ?_); rintro e w1 ⟨rfl, hb⟩; replace HBx := Lib.hid (pt HBx.out hb); clear hb)
      | (go_at_call 55; go_must (refine (HLe.out _ HBx.out).mono ?_); rintro e w3 ⟨rfl, hb⟩; replace HBx := Lib.hid (pt HBx.out hb); clear hb))
    go_ret
    exact ⟨rfl, HBx.out⟩

/-- What holds of memory when the ingredients and products of the first i lots are gathered. -/
structure Gath (base : Nat) (W : World) (xs : List Lot) (vf vt vs : Value) (uf ut : List Value) (i : Nat) : Prop where
  f : W.ownsRow base 53 1 vf i uf
  tf : TRows W uf (fun k => ingredientsV xs (nameAt xs k)) i
  t : W.ownsRow base 53 1 vt i ut
  tt : TRows W ut (fun k => productsV xs (nameAt xs k)) i
  ne : vf.ownBlock = none ∨ vf.ownBlock ≠ vt.ownBlock
  s : W.ownsRow base 4 1 vs i ((List.range i).map fun k => Value.bool (goodAt xs k))

section
variable {base : Nat} {W W1 W' : World} {xs : List Lot} {vf vt vs v' : Value} {uf ut : List Value} {i : Nat}
theorem Gath.past (h : Gath base W xs vf vt vs uf ut i) (hb : Below W.heap.size W W') : Gath base W' xs vf vt vs uf ut i :=
  ⟨ownsRow_past hb h.f, h.tf.past hb, ownsRow_past hb h.t, h.tt.past hb, h.ne, ownsRow_past hb h.s⟩
/-- The row of a third of the three has grown: the others are as they were. -/
structure Mid (base : Nat) (W : World) (xs : List Lot) (vf vt vs : Value) (nf nt ns : Nat) (uf ut us : List Value) : Prop where
  f : W.ownsRow base 53 1 vf nf uf
  tf : TRows W uf (fun k => ingredientsV xs (nameAt xs k)) nf
  t : W.ownsRow base 53 1 vt nt ut
  tt : TRows W ut (fun k => productsV xs (nameAt xs k)) nt
  ne : vf.ownBlock = none ∨ vf.ownBlock ≠ vt.ownBlock
  s : W.ownsRow base 4 1 vs ns us
variable {nf nt ns : Nat} {us : List Value}
theorem Gath.mid (h : Gath base W xs vf vt vs uf ut i) : Mid base W xs vf vt vs i i i uf ut ((List.range i).map fun k => Value.bool (goodAt xs k)) := ⟨h.f, h.tf, h.t, h.tt, h.ne, h.s⟩
theorem Mid.past (h : Mid base W xs vf vt vs nf nt ns uf ut us) (hb : Below W.heap.size W W') : Mid base W' xs vf vt vs nf nt ns uf ut us :=
  ⟨ownsRow_past hb h.f, h.tf.past hb, ownsRow_past hb h.t, h.tt.past hb, h.ne, ownsRow_past hb h.s⟩
theorem Mid.growF (h : Mid base W xs vf vt vs nf nt ns uf ut us) {A : Option Addr} {c : Nat} {l : List ByteArray} (hl : l = ingredientsV xs (nameAt xs nf)) (hx : TextRow W A l)
    (ho : W'.ownsRow base 53 1 v' (nf + 1) (uf ++ [.slice A l.length c])) (hg : W.grownBy W' vf.ownBlock) (hat : v'.ownBlock = vf.ownBlock ∨ v'.ownBlock = some W.heap.size) :
    Mid base W' xs v' vt vs (nf + 1) nt ns (uf ++ [.slice A l.length c]) ut us :=
  ⟨ho, (h.tf.snoc hl hx).same (TextRow.kept_rows h.f (by decide) hg), h.t.kept hg (ne_turn h.ne), h.tt.same (TextRow.kept_rows h.f (by decide) hg), ne_grown h.ne h.t hat, h.s.kept hg (own_ne h.s h.f (by decide))⟩
theorem Mid.growT (h : Mid base W xs vf vt vs nf nt ns uf ut us) {A : Option Addr} {c : Nat} {l : List ByteArray} (hl : l = productsV xs (nameAt xs nt)) (hx : TextRow W A l)
    (ho : W'.ownsRow base 53 1 v' (nt + 1) (ut ++ [.slice A l.length c])) (hg : W.grownBy W' vt.ownBlock) (hat : v'.ownBlock = vt.ownBlock ∨ v'.ownBlock = some W.heap.size) :
    Mid base W' xs vf v' vs nf (nt + 1) ns uf (ut ++ [.slice A l.length c]) us :=
  ⟨h.f.kept hg h.ne, h.tf.same (TextRow.kept_rows h.t (by decide) hg), ho, (h.tt.snoc hl hx).same (TextRow.kept_rows h.t (by decide) hg), ne_turn (ne_grown (ne_turn h.ne) h.f hat), h.s.kept hg (own_ne h.s h.t (by decide))⟩
theorem Mid.growS (h : Mid base W xs vf vt vs nf nt ns uf ut us) {us' : List Value} {ns' : Nat}
    (ho : W'.ownsRow base 4 1 v' ns' us') (hg : W.grownBy W' vs.ownBlock) : Mid base W' xs vf vt v' nf nt ns' uf ut us' :=
  ⟨h.f.kept hg (own_ne h.f h.s (by decide)), h.tf.same (TextRow.kept_rows h.s (by decide) hg), h.t.kept hg (own_ne h.t h.s (by decide)), h.tt.same (TextRow.kept_rows h.s (by decide) hg), h.ne, ho⟩
end

end Go.Proofs.Ytlgioldmjohhlaa
