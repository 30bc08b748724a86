/- Contract: the low-voltage phasors of two units for one high voltage (groupVoltages). Printed by a program (gen_vol.py). -/
import Derived.Test.YtpdkbhjcpddnpaaGreatDoorN9
import Derived.Test.YtpdkbhjcpddnpaaGreatDoorNR
import Derived.Test.YtpdkbhjcpddnpaaGreatDoorND

section
namespace Go.Proofs.YtpdkbhjcpddnpaaGreatDoor
open Go.RowKit
attribute [local go_sem ↓] Go.wp_at_zero Go.wp_at_succ

def voW (a b c d : Wind) : Nat → Wind
  | 0 => a
  | 1 => b
  | 2 => c
  | _ => d
def voP (x : Wind) : Int := phP (linesV x).x
def voQ (x : Wind) : Int := phQ (linesV x).x
theorem voW_ok {a b c d : Wind} (ha : a.ok) (hb : b.ok) (hc : c.ok) (hd : d.ok) (i : Nat) : (voW a b c d i).ok := by
  unfold voW
  split <;> first | exact ha | exact hb | exact hc | exact hd
theorem vo_bd {x : Wind} (h : x.ok) : (-8000 ≤ voP x ∧ voP x ≤ 8000) ∧ (-8000 ≤ voQ x ∧ voQ x ≤ 8000) := by
  obtain ⟨k, t, s, r⟩ := x
  obtain ⟨h1, h2, h3, _⟩ := linesV_sm h
  unfold Sm at h1 h2 h3
  unfold voP voQ phP phQ
  omega
theorem vo_phE {x : Wind} (h : x.ok) : phE (voP x) (voQ x) = 0 := by
  obtain ⟨⟨h1, h2⟩, h3, h4⟩ := vo_bd h
  unfold phE withinB
  rw [decide_eq_true (show -1000000 ≤ voP x by omega), decide_eq_true (show voP x ≤ 1000000 by omega), decide_eq_true (show -1000000 ≤ voQ x by omega), decide_eq_true (show voQ x ≤ 1000000 by omega)]
  rfl
def windC (x : Wind) : Array Value := #[.int .i64 x.kind, .int .i64 x.turns, .int .i64 x.shift, .bool x.rev]
def windsL (a b c d : Wind) : Array Value := #[.int .i64 a.kind, .int .i64 a.turns, .int .i64 a.shift, .bool a.rev, .int .i64 b.kind, .int .i64 b.turns, .int .i64 b.shift, .bool b.rev, .int .i64 c.kind, .int .i64 c.turns, .int .i64 c.shift, .bool c.rev, .int .i64 d.kind, .int .i64 d.turns, .int .i64 d.shift, .bool d.rev]
theorem winds_at (a b c d : Wind) {i : Nat} (hi : i < 4) : (windC (voW a b c d i)).toList = ((windsL a b c d).toList.drop (i * 4)).take (windC (voW a b c d i)).size := by
  rcases (show i = 0 ∨ i = 1 ∨ i = 2 ∨ i = 3 by omega) with rfl | rfl | rfl | rfl <;> rfl
theorem windsz : (Tryz.prog.info? 45).map (·.size) = some 4 := by kernel_rfl
theorem linessz : (Tryz.prog.info? 96).map (·.size) = some 9 := by kernel_rfl
theorem lines_vo {x : Wind} (h : x.ok) (w : World) (hP : PatIn w) : Calls Tryz.prog 36 #[.agg (windC x)] w fun z w' => z = .returned (.tuple #[.agg #[.int .i64 (linesV x).x.a, .int .i64 (linesV x).x.b, .int .i64 (linesV x).x.c, .int .i64 (linesV x).y.a, .int .i64 (linesV x).y.b, .int .i64 (linesV x).y.c, .int .i64 (linesV x).z.a, .int .i64 (linesV x).z.b, .int .i64 (linesV x).z.c], .int .i64 0]) ∧ Below w.heap.size w w' :=
  LinesOf_ok x.kind x.turns x.shift x.rev h _ rfl w hP
theorem phasor_vo {x : Wind} (h : x.ok) (w : World) : Calls Tryz.prog 37 #[.agg #[.int .i64 (linesV x).x.a, .int .i64 (linesV x).x.b, .int .i64 (linesV x).x.c, .int .i64 (linesV x).y.a, .int .i64 (linesV x).y.b, .int .i64 (linesV x).y.c, .int .i64 (linesV x).z.a, .int .i64 (linesV x).z.b, .int .i64 (linesV x).z.c]] w fun z w' => z = .returned (.tuple #[.agg #[.int .i64 (voP x), .int .i64 (voQ x)], .int .i64 0]) ∧ Below w.heap.size w w' := by
  obtain ⟨s1, s2, s3, s4, s5, s6, s7, s8, s9⟩ := linesV_sm (k := x.kind) (t := x.turns) (s := x.shift) (r := x.rev) h
  have m10 : ∀ {x : Int}, Sm 4000 x → Sm 10000 x := fun h => by unfold Sm at *; omega
  exact PhasorOf_ok _ _ _ _ _ _ _ _ _ (lineE_of (m10 s1) (m10 s2) (m10 s3) (m10 s4) (m10 s5) (m10 s6) (m10 s7) (m10 s8) (m10 s9)) w
theorem product_vo {x y : Wind} (hx : x.ok) (hy : y.ok) (w : World) : Calls Tryz.prog 74 #[.agg #[.int .i64 (voP x), .int .i64 (voQ x)], .agg #[.int .i64 (voP y), .int .i64 (voQ y)]] w fun e w' => e = .returned (.tuple #[.agg #[.int .i64 (mulP (voP x) (voQ x) (voP y) (voQ y)), .int .i64 (mulQ (voP x) (voQ x) (voP y) (voQ y))], .int .i64 0]) ∧ Below w.heap.size w w' :=
  Product_ok _ _ _ _ (vo_phE hx) (vo_phE hy) w

/-- The phasors of the first i windings. -/
structure VoSt (v : World) (n0 : Nat) (pv qv : Nat → Int) (i : Nat) (W : World) : Prop where
  z : ∃ cs, Blk W (n0 + 1) 148 cs ∧ cs.size = 8 ∧ ∀ k, k < i → cs[k * 2]? = some (.int .i64 (pv k)) ∧ cs[k * 2 + 1]? = some (.int .i64 (qv k))
  r : Blk W n0 81 #[.int .i64 0, .int .i64 0, .int .i64 0, .int .i64 0]
  w : ∃ U, Blk W (n0 + 1 + 1) 45 U ∧ Blk v (n0 + 1 + 1) 45 U
  bel : Below n0 v W
section
variable {v : World} {n0 : Nat} {pv qv : Nat → Int} {i : Nat} {W W' : World}
theorem VoSt.big (h : VoSt v n0 pv qv i W) : n0 + 1 + 1 < W.heap.size := by
  obtain ⟨_, h1, _⟩ := h.w
  exact h1.lt
theorem VoSt.past (h : VoSt v n0 pv qv i W) (hb : Below W.heap.size W W') : VoSt v n0 pv qv i W' := by
  have hz := h.big
  obtain ⟨⟨cs, h1, h2, h3⟩, hr, ⟨U, u1, u2⟩, hB⟩ := h
  exact ⟨⟨cs, h1.past hb, h2, h3⟩, hr.past hb, ⟨U, u1.past hb, u2⟩, hB.trans (hb.mono (by omega))⟩
theorem VoSt.step (h : VoSt v n0 pv qv i W) (hi : i < 4) : VoSt v n0 pv qv (i + 1) ((W.setCell ⟨n0 + 1, i * 2, none⟩ (.int .i64 (pv i))).setCell ⟨n0 + 1, i * 2 + 1, none⟩ (.int .i64 (qv i))) := by
  obtain ⟨⟨cs, h1, h2, h3⟩, hr, ⟨U, u1, u2⟩, hB⟩ := h
  refine ⟨⟨_, (h1.set_ _ _).set_ _ _, by simp [h2], fun k hk => ?_⟩, (hr.far (Nat.ne_of_lt (Nat.lt_succ_self _))).far (Nat.ne_of_lt (Nat.lt_succ_self _)), ⟨U, (u1.far (Nat.succ_ne_self _)).far (Nat.succ_ne_self _), u2⟩, (hB.setCell (p := ⟨n0 + 1, i * 2, none⟩) (Nat.le_succ _) _).setCell (p := ⟨n0 + 1, i * 2 + 1, none⟩) (Nat.le_succ _) _⟩
  by_cases e : k = i
  · subst e
    exact ⟨by rw [Array.getElem?_setIfInBounds_ne (by omega), Array.getElem?_setIfInBounds_self_of_lt (by omega)], by rw [Array.getElem?_setIfInBounds_self_of_lt (by simp; omega)]⟩
  · obtain ⟨h4, h5⟩ := h3 k (by omega)
    exact ⟨by rw [Array.getElem?_setIfInBounds_ne (by omega), Array.getElem?_setIfInBounds_ne (by omega)]; exact h4, by rw [Array.getElem?_setIfInBounds_ne (by omega), Array.getElem?_setIfInBounds_ne (by omega)]; exact h5⟩
end

set_option maxHeartbeats 16000000 in
set_option maxRecDepth 100000 in
theorem voltages_any (a b c d : Wind) (n m : Int) (ha : a.ok) (hb : b.ok) (hc : c.ok) (hd : d.ok) (w : World) (hP : PatIn w) :
    Calls Tryz.prog 31 #[.agg #[.int .i64 a.kind, .int .i64 a.turns, .int .i64 a.shift, .bool a.rev, .int .i64 b.kind, .int .i64 b.turns, .int .i64 b.shift, .bool b.rev, .int .i64 n], .agg #[.int .i64 c.kind, .int .i64 c.turns, .int .i64 c.shift, .bool c.rev, .int .i64 d.kind, .int .i64 d.turns, .int .i64 d.shift, .bool d.rev, .int .i64 m]] w fun e w' => e = .returned (.tuple #[.agg #[.int .i64 (mulP (voP b) (voQ b) (voP c) (voQ c)), .int .i64 (mulQ (voP b) (voQ b) (voP c) (voQ c)), .int .i64 (mulP (voP d) (voQ d) (voP a) (voQ a)), .int .i64 (mulQ (voP d) (voQ d) (voP a) (voQ a))], .bool true]) ∧ Below w.heap.size w w' := by
  have HP := Lib.hid (fun w' (h : Below w.heap.size w w') => hP.below h)
  have HOk := Lib.hid (fun i => voW_ok ha hb hc hd i)
  have HP1 := Lib.hid (product_vo hb hc)
  have HP2 := Lib.hid (product_vo hd ha)
  clear hP ha hb hc hd
  generalize mulP (voP b) (voQ b) (voP c) (voQ c) = m1 at *
  generalize mulQ (voP b) (voQ b) (voP c) (voQ c) = m2 at *
  generalize mulP (voP d) (voQ d) (voP a) (voQ a) = m3 at *
  generalize mulQ (voP d) (voQ d) (voP a) (voQ a) = m4 at *
  go_enter Tryz.func31, Tryz.ntmps31
  go_wp2
  have HSt := Lib.hid (show VoSt ((((((w.alloc (.cells #[.int .i64 a.kind, .int .i64 a.turns, .int .i64 a.shift, .bool a.rev, .int .i64 b.kind, .int .i64 b.turns, .int .i64 b.shift, .bool b.rev, .int .i64 n] 48)).alloc (.cells #[.int .i64 c.kind, .int .i64 c.turns, .int .i64 c.shift, .bool c.rev, .int .i64 d.kind, .int .i64 d.turns, .int .i64 d.shift, .bool d.rev, .int .i64 m] 48)).alloc (.cells #[.int .i64 0, .int .i64 0, .int .i64 0, .int .i64 0] 81)).alloc (.cells #[.int .i64 0, .int .i64 0, .int .i64 0, .int .i64 0, .int .i64 0, .int .i64 0, .int .i64 0, .int .i64 0] 148)).alloc (.cells #[.int .i64 a.kind, .int .i64 a.turns, .int .i64 a.shift, .bool a.rev, .int .i64 b.kind, .int .i64 b.turns, .int .i64 b.shift, .bool b.rev, .int .i64 c.kind, .int .i64 c.turns, .int .i64 c.shift, .bool c.rev, .int .i64 d.kind, .int .i64 d.turns, .int .i64 d.shift, .bool d.rev] 45))) (w.heap.size + 1 + 1) (fun k => voP (voW a b c d k)) (fun k => voQ (voW a b c d k)) 0 ((((((w.alloc (.cells #[.int .i64 a.kind, .int .i64 a.turns, .int .i64 a.shift, .bool a.rev, .int .i64 b.kind, .int .i64 b.turns, .int .i64 b.shift, .bool b.rev, .int .i64 n] 48)).alloc (.cells #[.int .i64 c.kind, .int .i64 c.turns, .int .i64 c.shift, .bool c.rev, .int .i64 d.kind, .int .i64 d.turns, .int .i64 d.shift, .bool d.rev, .int .i64 m] 48)).alloc (.cells #[.int .i64 0, .int .i64 0, .int .i64 0, .int .i64 0] 81)).alloc (.cells #[.int .i64 0, .int .i64 0, .int .i64 0, .int .i64 0, .int .i64 0, .int .i64 0, .int .i64 0, .int .i64 0] 148)).alloc (.cells #[.int .i64 a.kind, .int .i64 a.turns, .int .i64 a.shift, .bool a.rev, .int .i64 b.kind, .int .i64 b.turns, .int .i64 b.shift, .bool b.rev, .int .i64 c.kind, .int .i64 c.turns, .int .i64 c.shift, .bool c.rev, .int .i64 d.kind, .int .i64 d.turns, .int .i64 d.shift, .bool d.rev] 45))) from ⟨⟨_, ((Blk.newAt (w := ((w.alloc (.cells #[.int .i64 a.kind, .int .i64 a.turns, .int .i64 a.shift, .bool a.rev, .int .i64 b.kind, .int .i64 b.turns, .int .i64 b.shift, .bool b.rev, .int .i64 n] 48)).alloc (.cells #[.int .i64 c.kind, .int .i64 c.turns, .int .i64 c.shift, .bool c.rev, .int .i64 d.kind, .int .i64 d.turns, .int .i64 d.shift, .bool d.rev, .int .i64 m] 48)).alloc (.cells #[.int .i64 0, .int .i64 0, .int .i64 0, .int .i64 0] 81)) (by simp)).alloc), rfl, fun k hk => absurd hk (Nat.not_lt_zero k)⟩, ((Blk.newAt (w := ((w.alloc (.cells #[.int .i64 a.kind, .int .i64 a.turns, .int .i64 a.shift, .bool a.rev, .int .i64 b.kind, .int .i64 b.turns, .int .i64 b.shift, .bool b.rev, .int .i64 n] 48)).alloc (.cells #[.int .i64 c.kind, .int .i64 c.turns, .int .i64 c.shift, .bool c.rev, .int .i64 d.kind, .int .i64 d.turns, .int .i64 d.shift, .bool d.rev, .int .i64 m] 48))) (by simp)).alloc).alloc, ⟨windsL a b c d, Blk.newAt (by simp), Blk.newAt (by simp)⟩, Below.refl _ _⟩)
  have HWb := Lib.hid (show Blk ((((((w.alloc (.cells #[.int .i64 a.kind, .int .i64 a.turns, .int .i64 a.shift, .bool a.rev, .int .i64 b.kind, .int .i64 b.turns, .int .i64 b.shift, .bool b.rev, .int .i64 n] 48)).alloc (.cells #[.int .i64 c.kind, .int .i64 c.turns, .int .i64 c.shift, .bool c.rev, .int .i64 d.kind, .int .i64 d.turns, .int .i64 d.shift, .bool d.rev, .int .i64 m] 48)).alloc (.cells #[.int .i64 0, .int .i64 0, .int .i64 0, .int .i64 0] 81)).alloc (.cells #[.int .i64 0, .int .i64 0, .int .i64 0, .int .i64 0, .int .i64 0, .int .i64 0, .int .i64 0, .int .i64 0] 148)).alloc (.cells #[.int .i64 a.kind, .int .i64 a.turns, .int .i64 a.shift, .bool a.rev, .int .i64 b.kind, .int .i64 b.turns, .int .i64 b.shift, .bool b.rev, .int .i64 c.kind, .int .i64 c.turns, .int .i64 c.shift, .bool c.rev, .int .i64 d.kind, .int .i64 d.turns, .int .i64 d.shift, .bool d.rev] 45))) ((w.heap.size + 1 + 1) + 1 + 1) 45 (windsL a b c d) from Blk.newAt (by simp))
  have HQ0 := Lib.hid (show Below w.heap.size w ((((((w.alloc (.cells #[.int .i64 a.kind, .int .i64 a.turns, .int .i64 a.shift, .bool a.rev, .int .i64 b.kind, .int .i64 b.turns, .int .i64 b.shift, .bool b.rev, .int .i64 n] 48)).alloc (.cells #[.int .i64 c.kind, .int .i64 c.turns, .int .i64 c.shift, .bool c.rev, .int .i64 d.kind, .int .i64 d.turns, .int .i64 d.shift, .bool d.rev, .int .i64 m] 48)).alloc (.cells #[.int .i64 0, .int .i64 0, .int .i64 0, .int .i64 0] 81)).alloc (.cells #[.int .i64 0, .int .i64 0, .int .i64 0, .int .i64 0, .int .i64 0, .int .i64 0, .int .i64 0, .int .i64 0] 148)).alloc (.cells #[.int .i64 a.kind, .int .i64 a.turns, .int .i64 a.shift, .bool a.rev, .int .i64 b.kind, .int .i64 b.turns, .int .i64 b.shift, .bool b.rev, .int .i64 c.kind, .int .i64 c.turns, .int .i64 c.shift, .bool c.rev, .int .i64 d.kind, .int .i64 d.turns, .int .i64 d.shift, .bool d.rev] 45))) from pa (pa (pa (pa (pa pr)))))
  have HN0 := Lib.hid (show w.heap.size ≤ (w.heap.size + 1 + 1) by omega)
  generalize ((((((w.alloc (.cells #[.int .i64 a.kind, .int .i64 a.turns, .int .i64 a.shift, .bool a.rev, .int .i64 b.kind, .int .i64 b.turns, .int .i64 b.shift, .bool b.rev, .int .i64 n] 48)).alloc (.cells #[.int .i64 c.kind, .int .i64 c.turns, .int .i64 c.shift, .bool c.rev, .int .i64 d.kind, .int .i64 d.turns, .int .i64 d.shift, .bool d.rev, .int .i64 m] 48)).alloc (.cells #[.int .i64 0, .int .i64 0, .int .i64 0, .int .i64 0] 81)).alloc (.cells #[.int .i64 0, .int .i64 0, .int .i64 0, .int .i64 0, .int .i64 0, .int .i64 0, .int .i64 0, .int .i64 0] 148)).alloc (.cells #[.int .i64 a.kind, .int .i64 a.turns, .int .i64 a.shift, .bool a.rev, .int .i64 b.kind, .int .i64 b.turns, .int .i64 b.shift, .bool b.rev, .int .i64 c.kind, .int .i64 c.turns, .int .i64 c.shift, .bool c.rev, .int .i64 d.kind, .int .i64 d.turns, .int .i64 d.shift, .bool d.rev] 45))) = v at *
  generalize (w.heap.size + 1 + 1) = n0 at *
  as_aux_lemma =>
  go_loopw [8] (fun iv wr => ∃ i : Nat, iv = .int .i64 (i : Int) ∧ i ≤ 4 ∧ VoSt v n0 (fun k => voP (voW a b c d k)) (fun k => voQ (voW a b c d k)) i wr) (fun iv _ => 4 - (intOf iv).toNat)
  case atStart => exact ⟨0, rfl, Nat.zero_le _, HSt.out⟩
  case round =>
    obtain ⟨i, rfl, hi, hst⟩ := hrel
    replace HSt := Lib.hid hst
    clear hst
    have HBw := Lib.hid (HQ0.out.trans (HSt.out.bel.mono HN0.out))
    by_cases hlt : i < 4
    · as_aux_lemma =>
      have i0 : (0 : Int) ≤ (i : Int) := by omega
      have i1 : (i : Int) < 4 := by omega
      have HI := Lib.hid hlt
      have hx := HOk.out i
      have HStep := Lib.hid (show ∀ W, VoSt v n0 (fun k => voP (voW a b c d k)) (fun k => voQ (voW a b c d k)) i W → VoSt v n0 (fun k => voP (voW a b c d k)) (fun k => voQ (voW a b c d k)) (i + 1) ((W.setCell ⟨n0 + 1, i * 2, none⟩ (.int .i64 (voP (voW a b c d i)))).setCell ⟨n0 + 1, i * 2 + 1, none⟩ (.int .i64 (voQ (voW a b c d i)))) from fun W h => h.step hlt)
      have HAt := Lib.hid (winds_at a b c d hlt)
      obtain ⟨U, hu1, hu2⟩ := HSt.out.w
      obtain rfl : U = windsL a b c d := by
        have e1 : some (Obj.cells U 45 (0, 0)) = some (Obj.cells (windsL a b c d) 45 (0, 0)) := hu2.symm.trans HWb.out
        injection e1 with e1
        injection e1
      have HUW := Lib.hid hu1
      clear hu1 hu2 HOk HP1 HP2 HQ0 HN0 HWb hi hlt
      generalize windsL a b c d = UL at *
      generalize hPV : (fun k => voP (voW a b c d k)) = pv at *
      generalize hQV : (fun k => voQ (voW a b c d k)) = qv at *
      generalize voW a b c d i = x at *
      have HL := Lib.hid (fun W hP => lines_vo hx W hP)
      have HPh := Lib.hid (fun W => phasor_vo hx W)
      have HUs := Lib.hid (show (Tryz.prog.info? 45).map (·.size) = some (windC x).size from windsz)
      clear hPV hQV hx
      generalize hL : linesV x = L at *
      generalize voP x = p at *
      generalize voQ x = q at *
      clear hL
      generalize windC x = UC at *
    
      go_wp2_with (first
        | ((with_reducible refine load_sub (T := 45) (x := .tmp 33) (o := i * 4) (vs := UC) HUW.out ?_ ?_ Tryz.underlying45 ?_ ?_ ?_); (focus rfl); (focus exact HAt.out); (focus rfl); (focus exact HUs.out))
        | (go_at_call 36; (with_reducible refine (HL.out _ (HP.out _ HBw.out)).mono ?_); rintro e w1 ⟨rfl, hb1⟩; have HSa := Lib.hid ((HSt.out.past hb1).past (pa pr (o := .cells #[.int .i64 L.x.a, .int .i64 L.x.b, .int .i64 L.x.c, .int .i64 L.y.a, .int .i64 L.y.b, .int .i64 L.y.c, .int .i64 L.z.a, .int .i64 L.z.b, .int .i64 L.z.c] 96))); have HBa := Lib.hid (pa (pt HBw.out hb1) (o := .cells #[.int .i64 L.x.a, .int .i64 L.x.b, .int .i64 L.x.c, .int .i64 L.y.a, .int .i64 L.y.b, .int .i64 L.y.c, .int .i64 L.z.a, .int .i64 L.z.b, .int .i64 L.z.c] 96)); clear hb1)
        | ((with_reducible refine load_sub (T := 96) (x := .tmp 9) (o := 0) (vs := #[.int .i64 L.x.a, .int .i64 L.x.b, .int .i64 L.x.c, .int .i64 L.y.a, .int .i64 L.y.b, .int .i64 L.y.c, .int .i64 L.z.a, .int .i64 L.z.b, .int .i64 L.z.c]) (show Blk _ w1.heap.size 96 #[.int .i64 L.x.a, .int .i64 L.x.b, .int .i64 L.x.c, .int .i64 L.y.a, .int .i64 L.y.b, .int .i64 L.y.c, .int .i64 L.z.a, .int .i64 L.z.b, .int .i64 L.z.c] from Blk.new _ _ _) ?_ ?_ Tryz.underlying96 ?_ ?_ ?_); (focus rfl); (focus rfl); (focus rfl); (focus exact linessz))
        | (go_at_call 37; (with_reducible refine (HPh.out _).mono ?_); rintro e w2 ⟨rfl, hb2⟩; have HSb := Lib.hid ((HSa.out.past hb2).past (pa pr (o := .cells #[.int .i64 p, .int .i64 q] 24))); have HN := Lib.hid (HStep.out _ HSb.out); obtain ⟨⟨cs, k1, k2, k3⟩, _, _, _⟩ := HSb.out; have HK := Lib.hid k2; have e0 := k1.cellAt (i * 2) (Array.getElem?_eq_getElem (show i * 2 < cs.size by rw [HK.out]; have := HI.out; omega)); have e1 := k1.cellAt (i * 2 + 1) (Array.getElem?_eq_getElem (show i * 2 + 1 < cs.size by rw [HK.out]; have := HI.out; omega)); have f0 := k1.frozen (i * 2); have f1 := k1.frozen (i * 2 + 1); have kl := k1.lt; clear k1 k2 k3 hb2))
      clear e0 e1 f0 f1 kl
      go_roundw
      case rel => exact ⟨i + 1, by go_num, HI.out, HN.out⟩
      case measure => have := HI.out; simp [intOf]; omega
    · as_aux_lemma =>
      obtain rfl : i = 4 := Nat.le_antisymm hi (Nat.le_of_not_lt hlt)
      obtain ⟨⟨cs, k1, k2, k3⟩, hr, ⟨U, u1, u2⟩, hB⟩ := HSt.out
      obtain rfl := arr_lit (cs := cs) (L := [.int .i64 (voP a), .int .i64 (voQ a), .int .i64 (voP b), .int .i64 (voQ b), .int .i64 (voP c), .int .i64 (voQ c), .int .i64 (voP d), .int .i64 (voQ d)]) k2 (fun k hk => by
        have hk4 : k < 8 := hk
        rcases (show k = 0 ∨ k = 1 ∨ k = 2 ∨ k = 3 ∨ k = 4 ∨ k = 5 ∨ k = 6 ∨ k = 7 by omega) with rfl | rfl | rfl | rfl | rfl | rfl | rfl | rfl
        · exact (k3 0 (by decide)).1
        · exact (k3 0 (by decide)).2
        · exact (k3 1 (by decide)).1
        · exact (k3 1 (by decide)).2
        · exact (k3 2 (by decide)).1
        · exact (k3 2 (by decide)).2
        · exact (k3 3 (by decide)).1
        · exact (k3 3 (by decide)).2)
      have HZ := Lib.hid k1
      have HR := Lib.hid hr
      have HRn := Lib.hid HN0.out
      clear k1 k2 k3 hr u1 u2 hB HSt HWb HQ0 HN0 HOk HP hi hlt
      generalize voP a = pa_ at *
      generalize voQ a = qa_ at *
      generalize voP b = pb_ at *
      generalize voQ b = qb_ at *
      generalize voP c = pc_ at *
      generalize voQ c = qc_ at *
      generalize voP d = pd_ at *
      generalize voQ d = qd_ at *
      have z2 := HZ.out.cellAt 2 rfl
      have z3 := HZ.out.cellAt 3 rfl
      have z4 := HZ.out.cellAt 4 rfl
      have z5 := HZ.out.cellAt 5 rfl
      have zl := HZ.out.lt
      go_wp2_with (first
        | (go_at_call 74; (first | (with_reducible refine (HP1.out _).mono ?_; rintro e w1 ⟨rfl, hb1⟩; have HZ1 := Lib.hid ((HZ.out.past hb1).alloc (o := .cells #[.int .i64 m1, .int .i64 m2] 24)); have HR1 := Lib.hid ((HR.out.past hb1).alloc (o := .cells #[.int .i64 m1, .int .i64 m2] 24)); have HX1 := Lib.hid (Blk.new w1 24 #[.int .i64 m1, .int .i64 m2]); have HB1 := Lib.hid (pa (pt HBw.out hb1) (o := .cells #[.int .i64 m1, .int .i64 m2] 24)); clear z2 z3 z4 z5 zl hb1; have z6 := HZ1.out.cellAt 6 rfl; have z7 := HZ1.out.cellAt 7 rfl; have z0 := HZ1.out.cellAt 0 rfl; have z1 := HZ1.out.cellAt 1 rfl; have zl := HZ1.out.lt) | (with_reducible refine (HP2.out _).mono ?_; rintro e w2 ⟨rfl, hb2⟩; have HR2 := Lib.hid ((HR1.out.past hb2).alloc (o := .cells #[.int .i64 m3, .int .i64 m4] 24)); have HX2 := Lib.hid ((HX1.out.past hb2).alloc (o := .cells #[.int .i64 m3, .int .i64 m4] 24)); have HB2 := Lib.hid (pa (pt HB1.out hb2) (o := .cells #[.int .i64 m3, .int .i64 m4] 24)); clear z6 z7 z0 z1 zl hb2; have x0 := HX2.out.cellAt 0 rfl; have x1 := HX2.out.cellAt 1 rfl; have xl := HX2.out.lt; have y0 := HR2.out.cellAt 0 rfl; have y1 := HR2.out.cellAt 1 rfl; have y2 := HR2.out.cellAt 2 rfl; have y3 := HR2.out.cellAt 3 rfl; have v0 := HR2.out.frozen 0; have v1 := HR2.out.frozen 1; have v2 := HR2.out.frozen 2; have v3 := HR2.out.frozen 3; have yl := HR2.out.lt))))
      have HE := Lib.hid ((((HR2.out.set_ 0 (.int .i64 m1)).set_ 1 (.int .i64 m2)).set_ 2 (.int .i64 m3)).set_ 3 (.int .i64 m4))
      have g0 := HE.out.cellAt 0 rfl
      have g1 := HE.out.cellAt 1 rfl
      have g2 := HE.out.cellAt 2 rfl
      have g3 := HE.out.cellAt 3 rfl
      exact bodyPost_ret (v := .tuple #[.agg #[.int .i64 m1, .int .i64 m2, .int .i64 m3, .int .i64 m4], .bool true]) (by simp [results, Tryz.results31, go_sem, g0, g1, g2, g3]) rfl ⟨rfl, ps (ps (ps (ps HB2.out (p := ⟨n0, 0, none⟩) HRn.out) (p := ⟨n0, 1, none⟩) HRn.out) (p := ⟨n0, 2, none⟩) HRn.out) (p := ⟨n0, 3, none⟩) HRn.out⟩

end Go.Proofs.YtpdkbhjcpddnpaaGreatDoor
end
