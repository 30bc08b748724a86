/- Contract: the drop at a flux, from 0 on (package field). Printed by a program (gen_f1drop.py). -/
import Derived.Test.YtapegimghfflhaaMe
import Derived.Test.YtapegimghfflhaaMf

section
namespace Go.Proofs.Ytapegimghfflhaa
open Go.RowKit Go.Shelf
attribute [local go_sem] Oper.semAt_some undef


theorem ownG_blk {β : Type} {B g : Nat} {G : Nat → Prop} (t : TypeId) (cs : Array Value) (hG : ∀ k, G k → k ≠ g) : OwnG B G (fun (_ : β) W => Blk W g t cs) := fun _ W W' row hs hgr hr =>
  hs.grown hgr (fun e => by
    rcases hr g e.symm with h | ⟨_, o, ho, hc⟩
    · exact hG g h rfl
    · rw [show W.heap[g]? = _ from hs] at ho
      cases ho
      cases hc)
theorem ownG_below {β : Type} {n₀ B : Nat} {G : Nat → Prop} {w₀ : World} (hn : n₀ ≤ w₀.heap.size) (hB : n₀ ≤ B) (hG : ∀ k, G k → n₀ ≤ k) : OwnG B G (fun (_ : β) W => Below n₀ w₀ W) :=
  fun _ _ _ _ hs hg hr => hs.grown hg (Nat.le_trans hn hs.size) (fun k e => by
    rcases hr k e with h | h
    · exact hG k h
    · exact Nat.le_trans hB h.1)
theorem mul_absI {a b A B : Int} (ha : -A ≤ a ∧ a ≤ A) (hb : -B ≤ b ∧ b ≤ B) : -(A * B) ≤ a * b ∧ a * b ≤ A * B := by
  have h1 := Int.mul_nonneg (show 0 ≤ A - a by omega) (show 0 ≤ B - b by omega)
  have h2 := Int.mul_nonneg (show 0 ≤ A + a by omega) (show 0 ≤ B + b by omega)
  have h3 := Int.mul_nonneg (show 0 ≤ A - a by omega) (show 0 ≤ B + b by omega)
  have h4 := Int.mul_nonneg (show 0 ≤ A + a by omega) (show 0 ≤ B - b by omega)
  constructor <;> grind

set_option maxRecDepth 100000 in
set_option maxHeartbeats 8000000 in
theorem drop_in (m : Nat) (B : Nat) (cv : List DTerm) (A : Option Addr) (n c : Nat) (flux : Int) (w : World)
    (hr : CellsIn B w A (termsC cv)) (hB : B ≤ w.heap.size) (hn : cv.length = n) (ho : PtsOk cv) (hf : 0 ≤ flux ∧ flux ≤ 1000000) (h1 : 1 ≤ m) :
    CallsIn Fence.wide m Try.prog 29 #[.agg #[.slice A n c], .int .i64 flux] w fun e w' => e = .returned (.tuple #[.int .i64 (dropF flux (pieceL cv)).1, .int .i64 (dropF flux (pieceL cv)).2]) ∧ Below w.heap.size w w' := by
  have HM := Lib.hid (show dropF flux (pieceL cv) = firstF (DropT flux) (dropX flux) (pieceL cv ++ []) by rw [List.append_nil]; rfl)
  have HSeq := Lib.hid (fun b1 w0 (hW : Below w.heap.size w w0) h1 c1 => pieces_seq (m - 1) B cv A n c b1 w0 (hr.below (hW.mono hB)) (Nat.le_trans hB hW.size) hn ho h1 c1)
  have HL := Lib.hid (show ∀ pre, pre ≠ [] ∧ pre <+: pieceL cv → ∃ r, pieceL cv = pre ++ r from fun pre h => by obtain ⟨r, hr⟩ := h.2; exact ⟨r, hr.symm⟩)
  clear hr hn ho
  generalize dropF flux (pieceL cv) = R at *
  refine callsIn_of_wp_marks Try.func29 rfl trivial ?_ rfl
  simp only [undef, Try.ntmps29, List.size_toArray, List.length_cons, List.length_nil, Nat.reduceAdd, Nat.reduceSub, Array.replicate_succ, Array.replicate_zero, List.push_toArray, List.append_toArray, List.nil_append, List.cons_append]
  gi_wp2_with (refine ⟨trivial, ?_⟩; gi_at_call 48; refine (callsIn_wide.2 (pieces_any _ _ _ _)).mono ?_; rintro e w' ⟨rfl, rfl⟩)
  have hb : Below w.heap.size w (((((w.alloc (.cells #[.slice A n c] 24)).alloc (.cells #[.int .i64 flux] 3)).alloc (.cells #[.int .i64 0] 3)).alloc (.cells #[.int .i64 0] 3)).alloc (.cells #[.slice A n c] 24)) := pa (pa (pa (pa (pa pr))))
  have r1 : Blk (((((w.alloc (.cells #[.slice A n c] 24)).alloc (.cells #[.int .i64 flux] 3)).alloc (.cells #[.int .i64 0] 3)).alloc (.cells #[.int .i64 0] 3)).alloc (.cells #[.slice A n c] 24)) (w.heap.size + 1) 3 #[.int .i64 flux] := (((Blk.newAt (by simp)).alloc).alloc).alloc
  have r2 : Blk (((((w.alloc (.cells #[.slice A n c] 24)).alloc (.cells #[.int .i64 flux] 3)).alloc (.cells #[.int .i64 0] 3)).alloc (.cells #[.int .i64 0] 3)).alloc (.cells #[.slice A n c] 24)) (w.heap.size + 1 + 1) 3 #[.int .i64 0] := ((Blk.newAt (by simp)).alloc).alloc
  have r3 : Blk (((((w.alloc (.cells #[.slice A n c] 24)).alloc (.cells #[.int .i64 flux] 3)).alloc (.cells #[.int .i64 0] 3)).alloc (.cells #[.int .i64 0] 3)).alloc (.cells #[.slice A n c] 24)) (w.heap.size + 1 + 1 + 1) 3 #[.int .i64 0] := (Blk.newAt (by simp)).alloc
  have r4 : Blk (((((w.alloc (.cells #[.slice A n c] 24)).alloc (.cells #[.int .i64 flux] 3)).alloc (.cells #[.int .i64 0] 3)).alloc (.cells #[.int .i64 0] 3)).alloc (.cells #[.slice A n c] 24)) (w.heap.size + 1 + 1 + 1 + 1) 24 #[.slice A n c] := Blk.newAt (by simp)
  generalize (((((w.alloc (.cells #[.slice A n c] 24)).alloc (.cells #[.int .i64 flux] 3)).alloc (.cells #[.int .i64 0] 3)).alloc (.cells #[.int .i64 0] 3)).alloc (.cells #[.slice A n c] 24)) = W0 at *
  have hn4 : w.heap.size ≤ w.heap.size + 1 ∧ w.heap.size + 1 < w.heap.size + 1 + 1 ∧ w.heap.size + 1 + 1 < w.heap.size + 1 + 1 + 1 ∧ w.heap.size + 1 + 1 + 1 < w.heap.size + 1 + 1 + 1 + 1 := by omega
  generalize w.heap.size + 1 + 1 + 1 + 1 = b4 at *
  generalize w.heap.size + 1 + 1 + 1 = b3 at *
  generalize w.heap.size + 1 + 1 = b2 at *
  generalize w.heap.size + 1 = b1 at *
  have l4 := r4.lt
  have hBW := hb.size
  refine rangeFunc_lawGA h1 (gf := 62) (fb := #[]) (lb := #[.pointer (some ⟨b4, 0, none⟩)]) rfl (enters_of Try.func62 (by kernel_rfl) rfl)
    (HSeq.out b4 W0 hb r4.lt r4) (Below.refl _ _)
    (fun h k => h.trans k) (fun G W A l o o' hG hl hl2 ho hc => KeepF.put o' (fun k hk => by rcases hk with hk | hk <;> omega) hl2)
    (fun G x A l o o' ho hc hp => hp) (fun x => rfl)
    (fun G pre W => PickSt (DropT flux) (dropX flux) pre ∧ Blk W b1 3 #[.int .i64 flux] ∧ Blk W b2 3 #[.int .i64 0] ∧ Blk W b3 3 #[.int .i64 0] ∧ Below w.heap.size w W)
    (fun G c pre W => c = .ret ∧ ∃ v : Int × Int, (∀ r, firstF (DropT flux) (dropX flux) (pre ++ r) = v) ∧ Blk W b2 3 #[.int .i64 v.1] ∧ Blk W b3 3 #[.int .i64 v.2] ∧ Below w.heap.size w W)
    ?hI ?hIx ?h0
    (fun x W1 => { tmps := #[.agg #[.slice A n c], .int .i64 flux, .pointer (some ⟨w.heap.size, 0, none⟩), .pointer (some ⟨b1, 0, none⟩), .pointer (some ⟨b2, 0, none⟩), .pointer (some ⟨b3, 0, none⟩), .pointer (some ⟨W1.heap.size, 0, none⟩), .bool x.2.2, .agg #[.slice A n c], .func (.func 62) #[] #[.pointer (some ⟨b4, 0, none⟩)], .agg #[.int .i64 x.1.1, .int .i64 x.1.2, .int .i64 x.2.1.1, .int .i64 x.2.1.2], .bool x.2.2, .tuple #[], .tuple #[], .tuple #[], .tuple #[], .tuple #[], .tuple #[], .tuple #[], .tuple #[], .tuple #[], .tuple #[], .tuple #[], .tuple #[], .tuple #[], .tuple #[], .tuple #[], .tuple #[], .tuple #[], .tuple #[], .tuple #[], .tuple #[], .tuple #[], .tuple #[], .tuple #[], .tuple #[], .tuple #[], .tuple #[], .tuple #[], .tuple #[], .tuple #[], .tuple #[], .tuple #[], .tuple #[]], defers := [] }) (fun x => .cells #[.int .i64 x.1.1, .int .i64 x.1.2, .int .i64 x.2.1.1, .int .i64 x.2.1.2] 99)
    (fun _ W A o => KeepF.of_below (pa pr)) (fun _ _ _ _ h => h) ?assign ?body ?done ?stop
  case hI => exact fun G hG s A B row hs hg hr => ⟨hs.1, ownG_blk _ _ (fun k hk => by have := hG k hk; omega) s A B row hs.2.1 hg hr, ownG_blk _ _ (fun k hk => by have := hG k hk; omega) s A B row hs.2.2.1 hg hr, ownG_blk _ _ (fun k hk => by have := hG k hk; omega) s A B row hs.2.2.2.1 hg hr, ownG_below (Nat.le_refl _) hb.size (fun k hk => by have := hG k hk; omega) s A B row hs.2.2.2.2 hg hr⟩
  case hIx =>
    intro G c s A B row hs hg hr
    obtain ⟨hc, v, hv, h2, h3, h4⟩ := hs
    exact ⟨hc, v, hv, own_blk _ _ _ _ s A B row h2 hg hr, own_blk _ _ _ _ s A B row h3 hg hr, ownFrom_below (Nat.le_refl _) hb.size s A B row h4 hg hr⟩
  case h0 => exact fun G hG => ⟨PickSt.nil, r1, r2, r3, hb⟩
  case assign =>
    intro l x W K hK
    unfold pEnc
    gi_wp2
    exact hK
  case body =>
    rintro l G pre ⟨⟨xa, xb⟩, ⟨ya, yb⟩, lst⟩ Wb W1 W hG hWb hW1 hW hbox ⟨hst, q1, q2, q3, hq⟩ hpx hlen
    dsimp only at hbox ⊢
    unfold PieceOk at hpx
    dsimp only at hpx
    obtain ⟨⟨a1, a2⟩, ⟨a3, a4⟩, ⟨a5, a6⟩, a7, a8⟩ := hpx
    have X := Lib.hid (show Blk W W1.heap.size 99 #[.int .i64 xa, .int .i64 xb, .int .i64 ya, .int .i64 yb] from hbox)
    have m0 := X.out.cellAt 0 rfl
    have m1 := X.out.cellAt 1 rfl
    have m2 := X.out.cellAt 2 rfl
    have m3 := X.out.cellAt 3 rfl
    have ml := X.out.lt
    have d1 := q1.cellAt 0 rfl
    have g1 := q1.lt
    have HSt := Lib.hid hst
    have HWs := Lib.hid (show b4 < W1.heap.size by omega)
    clear hbox hst hlen hW hWb
    have p1 := mul_absI (A := 1000000) (B := 1000000) (a := xb) (b := ya) (by omega) (by omega)
    have p2 := mul_absI (A := 1000000) (B := 1000000) (a := flux - xa) (b := yb) (by omega) (by omega)
    have e1 : wrap64 (xa + ya) = xa + ya := w64 (by omega)
    have e1i : IntKind.i64.wrap (xa + ya) = xa + ya := IntWalk.i64_in _ (by omega)
    have e2 : wrap64 (xb * ya) = xb * ya := w64 (by omega)
    have e2i : IntKind.i64.wrap (xb * ya) = xb * ya := IntWalk.i64_in _ (by omega)
    have e3 : wrap64 (flux - xa) = flux - xa := w64 (by omega)
    have e3i : IntKind.i64.wrap (flux - xa) = flux - xa := IntWalk.i64_in _ (by omega)
    have e4 : wrap64 ((flux - xa) * yb) = (flux - xa) * yb := w64 (by omega)
    have e4i : IntKind.i64.wrap ((flux - xa) * yb) = (flux - xa) * yb := IntWalk.i64_in _ (by omega)
    have e5 : wrap64 (xb * ya + (flux - xa) * yb) = xb * ya + (flux - xa) * yb := w64 (by omega)
    have e5i : IntKind.i64.wrap (xb * ya + (flux - xa) * yb) = xb * ya + (flux - xa) * yb := IntWalk.i64_in _ (by omega)
    clear p1 p2
    cases lst
    · by_cases hx : flux ≤ xa + ya
      · skip
        gi_wp2
        have HSS := Lib.hid (show ∀ V : World, (∀ k, k = W1.heap.size ∨ k = b1 → V.heap[k]? = W.heap[k]?) → V.cell? ⟨W1.heap.size, 0, none⟩ = some (.int .i64 xa) ∧ V.cell? ⟨W1.heap.size, 1, none⟩ = some (.int .i64 xb) ∧ V.cell? ⟨W1.heap.size, 2, none⟩ = some (.int .i64 ya) ∧ V.cell? ⟨W1.heap.size, 3, none⟩ = some (.int .i64 yb) ∧ V.cell? ⟨b1, 0, none⟩ = some (.int .i64 flux) from fun V hV => ⟨(World.cell?_of_block (hV W1.heap.size (by simp))).trans (X.out.cellAt 0 rfl), (World.cell?_of_block (hV W1.heap.size (by simp))).trans (X.out.cellAt 1 rfl), (World.cell?_of_block (hV W1.heap.size (by simp))).trans (X.out.cellAt 2 rfl), (World.cell?_of_block (hV W1.heap.size (by simp))).trans (X.out.cellAt 3 rfl), (World.cell?_of_block (hV b1 (by simp))).trans (q1.cellAt 0 rfl)⟩)
        have HV0 := Lib.hid (show ∀ k, k = W1.heap.size ∨ k = b1 → W.drew.heap[k]? = W.heap[k]? from fun k hk => rfl)
        refine region_GI 21 follows_mixed (by kernel_rfl) (fun V => V.cell? ⟨W1.heap.size, 0, none⟩ = some (.int .i64 xa) ∧ V.cell? ⟨W1.heap.size, 1, none⟩ = some (.int .i64 xb) ∧ V.cell? ⟨W1.heap.size, 2, none⟩ = some (.int .i64 ya) ∧ V.cell? ⟨W1.heap.size, 3, none⟩ = some (.int .i64 yb) ∧ V.cell? ⟨b1, 0, none⟩ = some (.int .i64 flux)) (HSS.out _ HV0.out) ?_
        intro hSd inv
        have HSd := Lib.hid hSd
        clear hSd m0 m1 m2 m3 d1
        refine wpAnyG_take (i := 0) (v := ?_) rfl (by kernel_rfl) (by kernel_rfl) (by kernel_rfl) (by kernel_rfl) (by kernel_rfl) (by decide) (by decide) inv (fun _ _ _ h => h) (Or.inl ⟨by rfl, ?_⟩) HSd.out ?_; rotate_left; (focus (intro W y1; obtain ⟨y1, y2, y3, y4, y5⟩ := y1; go_simp; (first | done | with_reducible rfl))); clear inv; intro inv; simp only [List.getElem_toArray, List.getElem_cons_zero, Act.put, List.setIfInBounds_toArray, List.set_cons_zero, List.set_cons_succ]
        refine wpAnyG_take (i := 1) (v := ?_) rfl (by kernel_rfl) (by kernel_rfl) (by kernel_rfl) (by kernel_rfl) (by kernel_rfl) (by decide) (by decide) inv (fun _ _ _ h => h) (Or.inl ⟨by rfl, ?_⟩) HSd.out ?_; rotate_left; (focus (intro W y1; obtain ⟨y1, y2, y3, y4, y5⟩ := y1; go_simp; (first | done | with_reducible rfl))); clear inv; intro inv; simp only [List.getElem_toArray, List.getElem_cons_zero, List.getElem_cons_succ, Act.put, List.setIfInBounds_toArray, List.set_cons_zero, List.set_cons_succ]
        refine wpAnyG_take (i := 2) (v := ?_) rfl (by kernel_rfl) (by kernel_rfl) (by kernel_rfl) (by kernel_rfl) (by kernel_rfl) (by decide) (by decide) inv (fun _ _ _ h => h) (Or.inl ⟨by rfl, ?_⟩) HSd.out ?_; rotate_left; (focus (intro W y1; obtain ⟨y1, y2, y3, y4, y5⟩ := y1; go_simp; (first | done | with_reducible rfl))); clear inv; intro inv; simp only [List.getElem_toArray, List.getElem_cons_zero, List.getElem_cons_succ, Act.put, List.setIfInBounds_toArray, List.set_cons_zero, List.set_cons_succ]
        refine wpAnyG_take (i := 3) (v := ?_) rfl (by kernel_rfl) (by kernel_rfl) (by kernel_rfl) (by kernel_rfl) (by kernel_rfl) (by decide) (by decide) inv (fun _ _ _ h => h) (Or.inl ⟨by rfl, ?_⟩) HSd.out ?_; rotate_left; (focus (intro W y1; obtain ⟨y1, y2, y3, y4, y5⟩ := y1; go_simp; (first | done | with_reducible rfl))); clear inv; intro inv; simp only [List.getElem_toArray, List.getElem_cons_zero, List.getElem_cons_succ, Act.put, List.setIfInBounds_toArray, List.set_cons_zero, List.set_cons_succ]
        refine wpAnyG_take (i := 4) (v := ?_) rfl (by kernel_rfl) (by kernel_rfl) (by kernel_rfl) (by kernel_rfl) (by kernel_rfl) (by decide) (by decide) inv (fun _ _ _ h => h) (Or.inl ⟨by rfl, ?_⟩) HSd.out ?_; rotate_left; (focus (intro W y1; obtain ⟨y1, y2, y3, y4, y5⟩ := y1; go_simp; (first | done | with_reducible rfl))); clear inv; intro inv; simp only [List.getElem_toArray, List.getElem_cons_zero, List.getElem_cons_succ, Act.put, List.setIfInBounds_toArray, List.set_cons_zero, List.set_cons_succ]
        refine wpAnyG_take (i := 5) (v := ?_) rfl (by kernel_rfl) (by kernel_rfl) (by kernel_rfl) (by kernel_rfl) (by kernel_rfl) (by decide) (by decide) inv (fun _ _ _ h => h) (Or.inl ⟨by rfl, ?_⟩) HSd.out ?_; rotate_left; (focus (intro W y1; obtain ⟨y1, y2, y3, y4, y5⟩ := y1; go_simp; (first | done | with_reducible rfl))); clear inv; intro inv; simp only [List.getElem_toArray, List.getElem_cons_zero, List.getElem_cons_succ, Act.put, List.setIfInBounds_toArray, List.set_cons_zero, List.set_cons_succ]
        refine wpAnyG_take (i := 6) (v := ?_) rfl (by kernel_rfl) (by kernel_rfl) (by kernel_rfl) (by kernel_rfl) (by kernel_rfl) (by decide) (by decide) inv (fun _ _ _ h => h) (Or.inl ⟨by rfl, ?_⟩) HSd.out ?_; rotate_left; (focus (intro W y1; obtain ⟨y1, y2, y3, y4, y5⟩ := y1; go_simp; (first | done | with_reducible rfl))); clear inv; intro inv; simp only [List.getElem_toArray, List.getElem_cons_zero, List.getElem_cons_succ, Act.put, List.setIfInBounds_toArray, List.set_cons_zero, List.set_cons_succ]
        refine wpAnyG_take (i := 7) (v := ?_) rfl (by kernel_rfl) (by kernel_rfl) (by kernel_rfl) (by kernel_rfl) (by kernel_rfl) (by decide) (by decide) inv (fun _ _ _ h => h) (Or.inl ⟨by rfl, ?_⟩) HSd.out ?_; rotate_left; (focus (intro W y1; obtain ⟨y1, y2, y3, y4, y5⟩ := y1; go_simp; (first | done | with_reducible rfl))); clear inv; intro inv; simp only [List.getElem_toArray, List.getElem_cons_zero, List.getElem_cons_succ, Act.put, List.setIfInBounds_toArray, List.set_cons_zero, List.set_cons_succ]
        refine wpAnyG_take (i := 8) (v := ?_) rfl (by kernel_rfl) (by kernel_rfl) (by kernel_rfl) (by kernel_rfl) (by kernel_rfl) (by decide) (by decide) inv (fun _ _ _ h => h) (Or.inl ⟨by rfl, ?_⟩) HSd.out ?_; rotate_left; (focus (intro W y1; obtain ⟨y1, y2, y3, y4, y5⟩ := y1; go_simp; (first | done | with_reducible rfl))); clear inv; intro inv; simp only [List.getElem_toArray, List.getElem_cons_zero, List.getElem_cons_succ, Act.put, List.setIfInBounds_toArray, List.set_cons_zero, List.set_cons_succ]
        refine wpAnyG_take (i := 9) (v := ?_) rfl (by kernel_rfl) (by kernel_rfl) (by kernel_rfl) (by kernel_rfl) (by kernel_rfl) (by decide) (by decide) inv (fun _ _ _ h => h) (Or.inl ⟨by rfl, ?_⟩) HSd.out ?_; rotate_left; (focus (intro W y1; obtain ⟨y1, y2, y3, y4, y5⟩ := y1; go_simp; (first | done | with_reducible rfl))); clear inv; intro inv; simp only [List.getElem_toArray, List.getElem_cons_zero, List.getElem_cons_succ, Act.put, List.setIfInBounds_toArray, List.set_cons_zero, List.set_cons_succ]
        refine wpAnyG_take (i := 10) (v := ?_) rfl (by kernel_rfl) (by kernel_rfl) (by kernel_rfl) (by kernel_rfl) (by kernel_rfl) (by decide) (by decide) inv (fun _ _ _ h => h) (Or.inl ⟨by rfl, ?_⟩) HSd.out ?_; rotate_left; (focus (intro W y1; obtain ⟨y1, y2, y3, y4, y5⟩ := y1; go_simp; (first | done | with_reducible rfl))); clear inv; intro inv; simp only [List.getElem_toArray, List.getElem_cons_zero, List.getElem_cons_succ, Act.put, List.setIfInBounds_toArray, List.set_cons_zero, List.set_cons_succ]
        refine wpAnyG_take (i := 11) (v := ?_) rfl (by kernel_rfl) (by kernel_rfl) (by kernel_rfl) (by kernel_rfl) (by kernel_rfl) (by decide) (by decide) inv (fun _ _ _ h => h) (Or.inl ⟨by rfl, ?_⟩) HSd.out ?_; rotate_left; (focus (intro W y1; obtain ⟨y1, y2, y3, y4, y5⟩ := y1; go_simp; (first | done | with_reducible rfl))); clear inv; intro inv; simp only [List.getElem_toArray, List.getElem_cons_zero, List.getElem_cons_succ, Act.put, List.setIfInBounds_toArray, List.set_cons_zero, List.set_cons_succ]
        refine wpAnyG_take (i := 12) (v := ?_) rfl (by kernel_rfl) (by kernel_rfl) (by kernel_rfl) (by kernel_rfl) (by kernel_rfl) (by decide) (by decide) inv (fun _ _ _ h => h) (Or.inl ⟨by rfl, ?_⟩) HSd.out ?_; rotate_left; (focus (intro W y1; obtain ⟨y1, y2, y3, y4, y5⟩ := y1; go_simp; (first | done | with_reducible rfl))); clear inv; intro inv; simp only [List.getElem_toArray, List.getElem_cons_zero, List.getElem_cons_succ, Act.put, List.setIfInBounds_toArray, List.set_cons_zero, List.set_cons_succ]
        refine wpAnyG_take (i := 13) (v := ?_) rfl (by kernel_rfl) (by kernel_rfl) (by kernel_rfl) (by kernel_rfl) (by kernel_rfl) (by decide) (by decide) inv (fun _ _ _ h => h) (Or.inl ⟨by rfl, ?_⟩) HSd.out ?_; rotate_left; (focus (intro W y1; obtain ⟨y1, y2, y3, y4, y5⟩ := y1; go_simp; (first | done | with_reducible rfl))); clear inv; intro inv; simp only [List.getElem_toArray, List.getElem_cons_zero, List.getElem_cons_succ, Act.put, List.setIfInBounds_toArray, List.set_cons_zero, List.set_cons_succ]
        refine wpAnyG_take (i := 14) (v := ?_) rfl (by kernel_rfl) (by kernel_rfl) (by kernel_rfl) (by kernel_rfl) (by kernel_rfl) (by decide) (by decide) inv (fun _ _ _ h => h) (Or.inl ⟨by rfl, ?_⟩) HSd.out ?_; rotate_left; (focus (intro W y1; obtain ⟨y1, y2, y3, y4, y5⟩ := y1; go_simp; (first | done | with_reducible rfl))); clear inv; intro inv; simp only [List.getElem_toArray, List.getElem_cons_zero, List.getElem_cons_succ, Act.put, List.setIfInBounds_toArray, List.set_cons_zero, List.set_cons_succ]
        refine wpAnyG_take (i := 15) (v := ?_) rfl (by kernel_rfl) (by kernel_rfl) (by kernel_rfl) (by kernel_rfl) (by kernel_rfl) (by decide) (by decide) inv (fun _ _ _ h => h) (Or.inl ⟨by rfl, ?_⟩) HSd.out ?_; rotate_left; (focus (intro W y1; obtain ⟨y1, y2, y3, y4, y5⟩ := y1; go_simp; (first | done | with_reducible rfl))); clear inv; intro inv; simp only [List.getElem_toArray, List.getElem_cons_zero, List.getElem_cons_succ, Act.put, List.setIfInBounds_toArray, List.set_cons_zero, List.set_cons_succ]
        refine wpAnyG_take (i := 16) (v := ?_) rfl (by kernel_rfl) (by kernel_rfl) (by kernel_rfl) (by kernel_rfl) (by kernel_rfl) (by decide) (by decide) inv (fun _ _ _ h => h) (Or.inl ⟨by rfl, ?_⟩) HSd.out ?_; rotate_left; (focus (intro W y1; obtain ⟨y1, y2, y3, y4, y5⟩ := y1; go_simp; (first | done | with_reducible rfl))); clear inv; intro inv; simp only [List.getElem_toArray, List.getElem_cons_zero, List.getElem_cons_succ, Act.put, List.setIfInBounds_toArray, List.set_cons_zero, List.set_cons_succ]
        refine wpAnyG_take (i := 17) (v := ?_) rfl (by kernel_rfl) (by kernel_rfl) (by kernel_rfl) (by kernel_rfl) (by kernel_rfl) (by decide) (by decide) inv (fun _ _ _ h => h) (Or.inl ⟨by rfl, ?_⟩) HSd.out ?_; rotate_left; (focus (intro W y1; obtain ⟨y1, y2, y3, y4, y5⟩ := y1; go_simp; (first | done | with_reducible rfl))); clear inv; intro inv; simp only [List.getElem_toArray, List.getElem_cons_zero, List.getElem_cons_succ, Act.put, List.setIfInBounds_toArray, List.set_cons_zero, List.set_cons_succ]
        refine wpAnyG_take (i := 18) (v := ?_) rfl (by kernel_rfl) (by kernel_rfl) (by kernel_rfl) (by kernel_rfl) (by kernel_rfl) (by decide) (by decide) inv (fun _ _ _ h => h) (Or.inl ⟨by rfl, ?_⟩) HSd.out ?_; rotate_left; (focus (intro W y1; obtain ⟨y1, y2, y3, y4, y5⟩ := y1; go_simp; (first | done | with_reducible rfl))); clear inv; intro inv; simp only [List.getElem_toArray, List.getElem_cons_zero, List.getElem_cons_succ, Act.put, List.setIfInBounds_toArray, List.set_cons_zero, List.set_cons_succ]
        refine wpAnyG_take (i := 19) (v := ?_) rfl (by kernel_rfl) (by kernel_rfl) (by kernel_rfl) (by kernel_rfl) (by kernel_rfl) (by decide) (by decide) inv (fun _ _ _ h => h) (Or.inl ⟨by rfl, ?_⟩) HSd.out ?_; rotate_left; (focus (intro W y1; obtain ⟨y1, y2, y3, y4, y5⟩ := y1; go_simp; (first | done | with_reducible rfl))); clear inv; intro inv; simp only [List.getElem_toArray, List.getElem_cons_zero, List.getElem_cons_succ, Act.put, List.setIfInBounds_toArray, List.set_cons_zero, List.set_cons_succ]
        clear inv
        have p2 := q2
        have p3 := q3
        have d2' := p2.drew.cellAt 0 rfl
        have f2' := p2.drew.frozen 0
        have g2' := p2.drew.lt
        refine wpAnyG_one (i := 20) (by kernel_rfl) rfl rfl fun K hK => ?_
        go_simp
        have P3 := Lib.hid (show Blk ((W.setCell ⟨b2, 0, none⟩ (.int .i64 (xb * ya + (flux - xa) * yb))).drew) b3 3 #[.int .i64 0] from p3.far (p := ⟨b2, 0, none⟩) (by dsimp only; omega))
        have P2 := Lib.hid (show Blk ((W.setCell ⟨b2, 0, none⟩ (.int .i64 (xb * ya + (flux - xa) * yb))).drew) b2 3 #[.int .i64 (xb * ya + (flux - xa) * yb)] from (by simpa using p2.set_ 0 (.int .i64 (xb * ya + (flux - xa) * yb)) : Blk (W.setCell ⟨b2, 0, none⟩ (.int .i64 (xb * ya + (flux - xa) * yb))) b2 3 #[.int .i64 (xb * ya + (flux - xa) * yb)]).drew)
        have HB1 := Lib.hid (show Below w.heap.size w ((W.setCell ⟨b2, 0, none⟩ (.int .i64 (xb * ya + (flux - xa) * yb))).drew) from pd (ps hq (by dsimp only; omega)))
        have HK1 := Lib.hid (show KeepsOthers W ((W.setCell ⟨b2, 0, none⟩ (.int .i64 (xb * ya + (flux - xa) * yb))).drew) from ((KeepsOthers.setCell _ _ _).trans (KeepsOthers.drew _)))
        have HV1 := Lib.hid (show ∀ k, k = W1.heap.size ∨ k = b1 → ((W.setCell ⟨b2, 0, none⟩ (.int .i64 (xb * ya + (flux - xa) * yb))).drew).heap[k]? = W.heap[k]? from fun k hk => (Below.heap_setCell W ⟨b2, 0, none⟩ (.int .i64 (xb * ya + (flux - xa) * yb)) k (by have := HWs.out; dsimp only; omega)).trans (HV0.out k hk))
        clear d2' f2' g2' p2 p3
        generalize (W.setCell ⟨b2, 0, none⟩ (.int .i64 (xb * ya + (flux - xa) * yb))).drew = v1 at *
        refine hK.out _ _ (fun _ => HSS.out _ HV1.out) ?_
        clear hK K
        have d3' := P3.out.cellAt 0 rfl
        have f3' := P3.out.frozen 0
        have g3' := P3.out.lt
        refine wpAnyG_one (i := 21) (by kernel_rfl) rfl rfl fun K hK => ?_
        go_simp
        refine hK.out _ _ (fun h => absurd h (by decide)) ?_
        clear hK K
        refine wpAnyG_doneC (by kernel_rfl) ?_
        clear d3' f3' g3'
        gi_wp2
        exact ⟨(HK1.out.trans (KeepsOthers.setCell _ _ _)).from _, rfl, (xb * ya + (flux - xa) * yb, ya), HSt.out.stop (x := ((xa, xb), (ya, yb), false)) (.inr hx), P2.out.far (p := ⟨b3, 0, none⟩) (by dsimp only; omega), by simpa using P3.out.set_ 0 (.int .i64 (ya)), ps HB1.out (by dsimp only; omega)⟩
      · gi_wp2
        exact ⟨KeepsFrom.refl _ _, KeepF.of_below pr, HSt.out.snoc (by simp; omega), q1, q2, q3, hq⟩
    · skip
      gi_wp2
      have HSS := Lib.hid (show ∀ V : World, (∀ k, k = W1.heap.size ∨ k = b1 → V.heap[k]? = W.heap[k]?) → V.cell? ⟨W1.heap.size, 0, none⟩ = some (.int .i64 xa) ∧ V.cell? ⟨W1.heap.size, 1, none⟩ = some (.int .i64 xb) ∧ V.cell? ⟨W1.heap.size, 2, none⟩ = some (.int .i64 ya) ∧ V.cell? ⟨W1.heap.size, 3, none⟩ = some (.int .i64 yb) ∧ V.cell? ⟨b1, 0, none⟩ = some (.int .i64 flux) from fun V hV => ⟨(World.cell?_of_block (hV W1.heap.size (by simp))).trans (X.out.cellAt 0 rfl), (World.cell?_of_block (hV W1.heap.size (by simp))).trans (X.out.cellAt 1 rfl), (World.cell?_of_block (hV W1.heap.size (by simp))).trans (X.out.cellAt 2 rfl), (World.cell?_of_block (hV W1.heap.size (by simp))).trans (X.out.cellAt 3 rfl), (World.cell?_of_block (hV b1 (by simp))).trans (q1.cellAt 0 rfl)⟩)
      have HV0 := Lib.hid (show ∀ k, k = W1.heap.size ∨ k = b1 → W.drew.heap[k]? = W.heap[k]? from fun k hk => rfl)
      refine region_GI 21 follows_mixed (by kernel_rfl) (fun V => V.cell? ⟨W1.heap.size, 0, none⟩ = some (.int .i64 xa) ∧ V.cell? ⟨W1.heap.size, 1, none⟩ = some (.int .i64 xb) ∧ V.cell? ⟨W1.heap.size, 2, none⟩ = some (.int .i64 ya) ∧ V.cell? ⟨W1.heap.size, 3, none⟩ = some (.int .i64 yb) ∧ V.cell? ⟨b1, 0, none⟩ = some (.int .i64 flux)) (HSS.out _ HV0.out) ?_
      intro hSd inv
      have HSd := Lib.hid hSd
      clear hSd m0 m1 m2 m3 d1
      refine wpAnyG_take (i := 0) (v := ?_) rfl (by kernel_rfl) (by kernel_rfl) (by kernel_rfl) (by kernel_rfl) (by kernel_rfl) (by decide) (by decide) inv (fun _ _ _ h => h) (Or.inl ⟨by rfl, ?_⟩) HSd.out ?_; rotate_left; (focus (intro W y1; obtain ⟨y1, y2, y3, y4, y5⟩ := y1; go_simp; (first | done | with_reducible rfl))); clear inv; intro inv; simp only [List.getElem_toArray, List.getElem_cons_zero, Act.put, List.setIfInBounds_toArray, List.set_cons_zero, List.set_cons_succ]
      refine wpAnyG_take (i := 1) (v := ?_) rfl (by kernel_rfl) (by kernel_rfl) (by kernel_rfl) (by kernel_rfl) (by kernel_rfl) (by decide) (by decide) inv (fun _ _ _ h => h) (Or.inl ⟨by rfl, ?_⟩) HSd.out ?_; rotate_left; (focus (intro W y1; obtain ⟨y1, y2, y3, y4, y5⟩ := y1; go_simp; (first | done | with_reducible rfl))); clear inv; intro inv; simp only [List.getElem_toArray, List.getElem_cons_zero, List.getElem_cons_succ, Act.put, List.setIfInBounds_toArray, List.set_cons_zero, List.set_cons_succ]
      refine wpAnyG_take (i := 2) (v := ?_) rfl (by kernel_rfl) (by kernel_rfl) (by kernel_rfl) (by kernel_rfl) (by kernel_rfl) (by decide) (by decide) inv (fun _ _ _ h => h) (Or.inl ⟨by rfl, ?_⟩) HSd.out ?_; rotate_left; (focus (intro W y1; obtain ⟨y1, y2, y3, y4, y5⟩ := y1; go_simp; (first | done | with_reducible rfl))); clear inv; intro inv; simp only [List.getElem_toArray, List.getElem_cons_zero, List.getElem_cons_succ, Act.put, List.setIfInBounds_toArray, List.set_cons_zero, List.set_cons_succ]
      refine wpAnyG_take (i := 3) (v := ?_) rfl (by kernel_rfl) (by kernel_rfl) (by kernel_rfl) (by kernel_rfl) (by kernel_rfl) (by decide) (by decide) inv (fun _ _ _ h => h) (Or.inl ⟨by rfl, ?_⟩) HSd.out ?_; rotate_left; (focus (intro W y1; obtain ⟨y1, y2, y3, y4, y5⟩ := y1; go_simp; (first | done | with_reducible rfl))); clear inv; intro inv; simp only [List.getElem_toArray, List.getElem_cons_zero, List.getElem_cons_succ, Act.put, List.setIfInBounds_toArray, List.set_cons_zero, List.set_cons_succ]
      refine wpAnyG_take (i := 4) (v := ?_) rfl (by kernel_rfl) (by kernel_rfl) (by kernel_rfl) (by kernel_rfl) (by kernel_rfl) (by decide) (by decide) inv (fun _ _ _ h => h) (Or.inl ⟨by rfl, ?_⟩) HSd.out ?_; rotate_left; (focus (intro W y1; obtain ⟨y1, y2, y3, y4, y5⟩ := y1; go_simp; (first | done | with_reducible rfl))); clear inv; intro inv; simp only [List.getElem_toArray, List.getElem_cons_zero, List.getElem_cons_succ, Act.put, List.setIfInBounds_toArray, List.set_cons_zero, List.set_cons_succ]
      refine wpAnyG_take (i := 5) (v := ?_) rfl (by kernel_rfl) (by kernel_rfl) (by kernel_rfl) (by kernel_rfl) (by kernel_rfl) (by decide) (by decide) inv (fun _ _ _ h => h) (Or.inl ⟨by rfl, ?_⟩) HSd.out ?_; rotate_left; (focus (intro W y1; obtain ⟨y1, y2, y3, y4, y5⟩ := y1; go_simp; (first | done | with_reducible rfl))); clear inv; intro inv; simp only [List.getElem_toArray, List.getElem_cons_zero, List.getElem_cons_succ, Act.put, List.setIfInBounds_toArray, List.set_cons_zero, List.set_cons_succ]
      refine wpAnyG_take (i := 6) (v := ?_) rfl (by kernel_rfl) (by kernel_rfl) (by kernel_rfl) (by kernel_rfl) (by kernel_rfl) (by decide) (by decide) inv (fun _ _ _ h => h) (Or.inl ⟨by rfl, ?_⟩) HSd.out ?_; rotate_left; (focus (intro W y1; obtain ⟨y1, y2, y3, y4, y5⟩ := y1; go_simp; (first | done | with_reducible rfl))); clear inv; intro inv; simp only [List.getElem_toArray, List.getElem_cons_zero, List.getElem_cons_succ, Act.put, List.setIfInBounds_toArray, List.set_cons_zero, List.set_cons_succ]
      refine wpAnyG_take (i := 7) (v := ?_) rfl (by kernel_rfl) (by kernel_rfl) (by kernel_rfl) (by kernel_rfl) (by kernel_rfl) (by decide) (by decide) inv (fun _ _ _ h => h) (Or.inl ⟨by rfl, ?_⟩) HSd.out ?_; rotate_left; (focus (intro W y1; obtain ⟨y1, y2, y3, y4, y5⟩ := y1; go_simp; (first | done | with_reducible rfl))); clear inv; intro inv; simp only [List.getElem_toArray, List.getElem_cons_zero, List.getElem_cons_succ, Act.put, List.setIfInBounds_toArray, List.set_cons_zero, List.set_cons_succ]
      refine wpAnyG_take (i := 8) (v := ?_) rfl (by kernel_rfl) (by kernel_rfl) (by kernel_rfl) (by kernel_rfl) (by kernel_rfl) (by decide) (by decide) inv (fun _ _ _ h => h) (Or.inl ⟨by rfl, ?_⟩) HSd.out ?_; rotate_left; (focus (intro W y1; obtain ⟨y1, y2, y3, y4, y5⟩ := y1; go_simp; (first | done | with_reducible rfl))); clear inv; intro inv; simp only [List.getElem_toArray, List.getElem_cons_zero, List.getElem_cons_succ, Act.put, List.setIfInBounds_toArray, List.set_cons_zero, List.set_cons_succ]
      refine wpAnyG_take (i := 9) (v := ?_) rfl (by kernel_rfl) (by kernel_rfl) (by kernel_rfl) (by kernel_rfl) (by kernel_rfl) (by decide) (by decide) inv (fun _ _ _ h => h) (Or.inl ⟨by rfl, ?_⟩) HSd.out ?_; rotate_left; (focus (intro W y1; obtain ⟨y1, y2, y3, y4, y5⟩ := y1; go_simp; (first | done | with_reducible rfl))); clear inv; intro inv; simp only [List.getElem_toArray, List.getElem_cons_zero, List.getElem_cons_succ, Act.put, List.setIfInBounds_toArray, List.set_cons_zero, List.set_cons_succ]
      refine wpAnyG_take (i := 10) (v := ?_) rfl (by kernel_rfl) (by kernel_rfl) (by kernel_rfl) (by kernel_rfl) (by kernel_rfl) (by decide) (by decide) inv (fun _ _ _ h => h) (Or.inl ⟨by rfl, ?_⟩) HSd.out ?_; rotate_left; (focus (intro W y1; obtain ⟨y1, y2, y3, y4, y5⟩ := y1; go_simp; (first | done | with_reducible rfl))); clear inv; intro inv; simp only [List.getElem_toArray, List.getElem_cons_zero, List.getElem_cons_succ, Act.put, List.setIfInBounds_toArray, List.set_cons_zero, List.set_cons_succ]
      refine wpAnyG_take (i := 11) (v := ?_) rfl (by kernel_rfl) (by kernel_rfl) (by kernel_rfl) (by kernel_rfl) (by kernel_rfl) (by decide) (by decide) inv (fun _ _ _ h => h) (Or.inl ⟨by rfl, ?_⟩) HSd.out ?_; rotate_left; (focus (intro W y1; obtain ⟨y1, y2, y3, y4, y5⟩ := y1; go_simp; (first | done | with_reducible rfl))); clear inv; intro inv; simp only [List.getElem_toArray, List.getElem_cons_zero, List.getElem_cons_succ, Act.put, List.setIfInBounds_toArray, List.set_cons_zero, List.set_cons_succ]
      refine wpAnyG_take (i := 12) (v := ?_) rfl (by kernel_rfl) (by kernel_rfl) (by kernel_rfl) (by kernel_rfl) (by kernel_rfl) (by decide) (by decide) inv (fun _ _ _ h => h) (Or.inl ⟨by rfl, ?_⟩) HSd.out ?_; rotate_left; (focus (intro W y1; obtain ⟨y1, y2, y3, y4, y5⟩ := y1; go_simp; (first | done | with_reducible rfl))); clear inv; intro inv; simp only [List.getElem_toArray, List.getElem_cons_zero, List.getElem_cons_succ, Act.put, List.setIfInBounds_toArray, List.set_cons_zero, List.set_cons_succ]
      refine wpAnyG_take (i := 13) (v := ?_) rfl (by kernel_rfl) (by kernel_rfl) (by kernel_rfl) (by kernel_rfl) (by kernel_rfl) (by decide) (by decide) inv (fun _ _ _ h => h) (Or.inl ⟨by rfl, ?_⟩) HSd.out ?_; rotate_left; (focus (intro W y1; obtain ⟨y1, y2, y3, y4, y5⟩ := y1; go_simp; (first | done | with_reducible rfl))); clear inv; intro inv; simp only [List.getElem_toArray, List.getElem_cons_zero, List.getElem_cons_succ, Act.put, List.setIfInBounds_toArray, List.set_cons_zero, List.set_cons_succ]
      refine wpAnyG_take (i := 14) (v := ?_) rfl (by kernel_rfl) (by kernel_rfl) (by kernel_rfl) (by kernel_rfl) (by kernel_rfl) (by decide) (by decide) inv (fun _ _ _ h => h) (Or.inl ⟨by rfl, ?_⟩) HSd.out ?_; rotate_left; (focus (intro W y1; obtain ⟨y1, y2, y3, y4, y5⟩ := y1; go_simp; (first | done | with_reducible rfl))); clear inv; intro inv; simp only [List.getElem_toArray, List.getElem_cons_zero, List.getElem_cons_succ, Act.put, List.setIfInBounds_toArray, List.set_cons_zero, List.set_cons_succ]
      refine wpAnyG_take (i := 15) (v := ?_) rfl (by kernel_rfl) (by kernel_rfl) (by kernel_rfl) (by kernel_rfl) (by kernel_rfl) (by decide) (by decide) inv (fun _ _ _ h => h) (Or.inl ⟨by rfl, ?_⟩) HSd.out ?_; rotate_left; (focus (intro W y1; obtain ⟨y1, y2, y3, y4, y5⟩ := y1; go_simp; (first | done | with_reducible rfl))); clear inv; intro inv; simp only [List.getElem_toArray, List.getElem_cons_zero, List.getElem_cons_succ, Act.put, List.setIfInBounds_toArray, List.set_cons_zero, List.set_cons_succ]
      refine wpAnyG_take (i := 16) (v := ?_) rfl (by kernel_rfl) (by kernel_rfl) (by kernel_rfl) (by kernel_rfl) (by kernel_rfl) (by decide) (by decide) inv (fun _ _ _ h => h) (Or.inl ⟨by rfl, ?_⟩) HSd.out ?_; rotate_left; (focus (intro W y1; obtain ⟨y1, y2, y3, y4, y5⟩ := y1; go_simp; (first | done | with_reducible rfl))); clear inv; intro inv; simp only [List.getElem_toArray, List.getElem_cons_zero, List.getElem_cons_succ, Act.put, List.setIfInBounds_toArray, List.set_cons_zero, List.set_cons_succ]
      refine wpAnyG_take (i := 17) (v := ?_) rfl (by kernel_rfl) (by kernel_rfl) (by kernel_rfl) (by kernel_rfl) (by kernel_rfl) (by decide) (by decide) inv (fun _ _ _ h => h) (Or.inl ⟨by rfl, ?_⟩) HSd.out ?_; rotate_left; (focus (intro W y1; obtain ⟨y1, y2, y3, y4, y5⟩ := y1; go_simp; (first | done | with_reducible rfl))); clear inv; intro inv; simp only [List.getElem_toArray, List.getElem_cons_zero, List.getElem_cons_succ, Act.put, List.setIfInBounds_toArray, List.set_cons_zero, List.set_cons_succ]
      refine wpAnyG_take (i := 18) (v := ?_) rfl (by kernel_rfl) (by kernel_rfl) (by kernel_rfl) (by kernel_rfl) (by kernel_rfl) (by decide) (by decide) inv (fun _ _ _ h => h) (Or.inl ⟨by rfl, ?_⟩) HSd.out ?_; rotate_left; (focus (intro W y1; obtain ⟨y1, y2, y3, y4, y5⟩ := y1; go_simp; (first | done | with_reducible rfl))); clear inv; intro inv; simp only [List.getElem_toArray, List.getElem_cons_zero, List.getElem_cons_succ, Act.put, List.setIfInBounds_toArray, List.set_cons_zero, List.set_cons_succ]
      refine wpAnyG_take (i := 19) (v := ?_) rfl (by kernel_rfl) (by kernel_rfl) (by kernel_rfl) (by kernel_rfl) (by kernel_rfl) (by decide) (by decide) inv (fun _ _ _ h => h) (Or.inl ⟨by rfl, ?_⟩) HSd.out ?_; rotate_left; (focus (intro W y1; obtain ⟨y1, y2, y3, y4, y5⟩ := y1; go_simp; (first | done | with_reducible rfl))); clear inv; intro inv; simp only [List.getElem_toArray, List.getElem_cons_zero, List.getElem_cons_succ, Act.put, List.setIfInBounds_toArray, List.set_cons_zero, List.set_cons_succ]
      clear inv
      have p2 := q2
      have p3 := q3
      have d2' := p2.drew.cellAt 0 rfl
      have f2' := p2.drew.frozen 0
      have g2' := p2.drew.lt
      refine wpAnyG_one (i := 20) (by kernel_rfl) rfl rfl fun K hK => ?_
      go_simp
      have P3 := Lib.hid (show Blk ((W.setCell ⟨b2, 0, none⟩ (.int .i64 (xb * ya + (flux - xa) * yb))).drew) b3 3 #[.int .i64 0] from p3.far (p := ⟨b2, 0, none⟩) (by dsimp only; omega))
      have P2 := Lib.hid (show Blk ((W.setCell ⟨b2, 0, none⟩ (.int .i64 (xb * ya + (flux - xa) * yb))).drew) b2 3 #[.int .i64 (xb * ya + (flux - xa) * yb)] from (by simpa using p2.set_ 0 (.int .i64 (xb * ya + (flux - xa) * yb)) : Blk (W.setCell ⟨b2, 0, none⟩ (.int .i64 (xb * ya + (flux - xa) * yb))) b2 3 #[.int .i64 (xb * ya + (flux - xa) * yb)]).drew)
      have HB1 := Lib.hid (show Below w.heap.size w ((W.setCell ⟨b2, 0, none⟩ (.int .i64 (xb * ya + (flux - xa) * yb))).drew) from pd (ps hq (by dsimp only; omega)))
      have HK1 := Lib.hid (show KeepsOthers W ((W.setCell ⟨b2, 0, none⟩ (.int .i64 (xb * ya + (flux - xa) * yb))).drew) from ((KeepsOthers.setCell _ _ _).trans (KeepsOthers.drew _)))
      have HV1 := Lib.hid (show ∀ k, k = W1.heap.size ∨ k = b1 → ((W.setCell ⟨b2, 0, none⟩ (.int .i64 (xb * ya + (flux - xa) * yb))).drew).heap[k]? = W.heap[k]? from fun k hk => (Below.heap_setCell W ⟨b2, 0, none⟩ (.int .i64 (xb * ya + (flux - xa) * yb)) k (by have := HWs.out; dsimp only; omega)).trans (HV0.out k hk))
      clear d2' f2' g2' p2 p3
      generalize (W.setCell ⟨b2, 0, none⟩ (.int .i64 (xb * ya + (flux - xa) * yb))).drew = v1 at *
      refine hK.out _ _ (fun _ => HSS.out _ HV1.out) ?_
      clear hK K
      have d3' := P3.out.cellAt 0 rfl
      have f3' := P3.out.frozen 0
      have g3' := P3.out.lt
      refine wpAnyG_one (i := 21) (by kernel_rfl) rfl rfl fun K hK => ?_
      go_simp
      refine hK.out _ _ (fun h => absurd h (by decide)) ?_
      clear hK K
      refine wpAnyG_doneC (by kernel_rfl) ?_
      clear d3' f3' g3'
      gi_wp2
      exact ⟨(HK1.out.trans (KeepsOthers.setCell _ _ _)).from _, rfl, (xb * ya + (flux - xa) * yb, ya), HSt.out.stop (x := ((xa, xb), (ya, yb), true)) (.inl rfl), P2.out.far (p := ⟨b3, 0, none⟩) (by dsimp only; omega), by simpa using P3.out.set_ 0 (.int .i64 (ya)), ps HB1.out (by dsimp only; omega)⟩
  case done =>
    rintro G D xs W hD rfl ⟨hst, q1, q2, q3, hq⟩ hK
    have ha := hst []
    rw [← HM.out] at ha
    have HA := Lib.hid (show R = (0, 1) from ha)
    have d2 := q2.cellAt 0 rfl
    have f2 := q2.frozen 0
    have g2 := q2.lt
    have d3 := q3.cellAt 0 rfl
    have f3 := q3.frozen 0
    have g3 := q3.lt
    clear hst ha
    gi_wp2
    refine ⟨by simp, .inl ⟨_, _, rfl, run_takeDeferred (((KeepsOthers.setCell W ⟨b2, 0, none⟩ (.int .i64 0)).trans (KeepsOthers.setCell _ ⟨b3, 0, none⟩ (.int .i64 1))).same D _ hK rfl), ?_⟩⟩
    have p2 : Blk (((W.setCell ⟨b2, 0, none⟩ (.int .i64 0)).setCell ⟨b3, 0, none⟩ (.int .i64 1)).putObj D (.deferred none)) b2 3 #[.int .i64 0] := Blk.putObj ((by simpa using q2.set_ 0 (.int .i64 0) : Blk (W.setCell ⟨b2, 0, none⟩ (.int .i64 0)) b2 3 #[.int .i64 0]).far (p := ⟨b3, 0, none⟩) (by dsimp only; omega)) (by omega)
    have p3 : Blk (((W.setCell ⟨b2, 0, none⟩ (.int .i64 0)).setCell ⟨b3, 0, none⟩ (.int .i64 1)).putObj D (.deferred none)) b3 3 #[.int .i64 1] := Blk.putObj (by simpa using (q3.far (p := ⟨b2, 0, none⟩) (u := .int .i64 0) (by dsimp only; omega)).set_ 0 (.int .i64 1)) (by omega)
    have e2 := p2.cellAt 0 rfl
    have e3 := p3.cellAt 0 rfl
    refine ⟨.tuple #[.int .i64 0, .int .i64 1], by simp [results, Try.results29, go_sem, e2, e3], ?_⟩
    rw [HA.out]
    exact ⟨rfl, (ps (ps hq (by dsimp only; omega)) (by dsimp only; omega)).trans ⟨rfl, rfl, rfl, by simp, fun k hk => World.putObj_heap_other (by omega)⟩⟩
  case stop =>
    rintro G D c' pre W hD hp ⟨rfl, v, hst, q2, q3, hq⟩ hK
    obtain ⟨r, hr⟩ := HL.out pre hp
    have ha := hst r
    rw [← hr] at ha
    have HA := Lib.hid (show R = v from by rw [HM.out, List.append_nil]; exact ha)
    have d2 := q2.cellAt 0 rfl
    have d3 := q3.cellAt 0 rfl
    clear hst ha hr hp
    gi_wp2
    refine ⟨by simp, .inl ⟨_, _, rfl, run_takeDeferred hK, ?_⟩⟩
    have p2 : Blk (W.putObj D (.deferred none)) b2 3 #[.int .i64 v.1] := q2.putObj (by omega)
    have p3 : Blk (W.putObj D (.deferred none)) b3 3 #[.int .i64 v.2] := q3.putObj (by omega)
    have e2 := p2.cellAt 0 rfl
    have e3 := p3.cellAt 0 rfl
    refine ⟨.tuple #[.int .i64 v.1, .int .i64 v.2], by simp [results, Try.results29, go_sem, e2, e3], ?_⟩
    rw [HA.out]
    exact ⟨rfl, hq.trans ⟨rfl, rfl, rfl, by simp, fun k hk => World.putObj_heap_other (by omega)⟩⟩

theorem drop_any (B : Nat) (cv : List DTerm) (A : Option Addr) (n c : Nat) (flux : Int) (w : World)
    (hr : CellsIn B w A (termsC cv)) (hB : B ≤ w.heap.size) (hn : cv.length = n) (ho : PtsOk cv) (hf : 0 ≤ flux ∧ flux ≤ 1000000) :
    Calls Try.prog 29 #[.agg #[.slice A n c], .int .i64 flux] w fun e w' => e = .returned (.tuple #[.int .i64 (dropF flux (pieceL cv)).1, .int .i64 (dropF flux (pieceL cv)).2]) ∧ Below w.heap.size w w' :=
  callsIn_wide.1 (drop_in 1 B cv A n c flux w hr hB hn ho hf (Nat.le_refl _))
end Go.Proofs.Ytapegimghfflhaa
end
