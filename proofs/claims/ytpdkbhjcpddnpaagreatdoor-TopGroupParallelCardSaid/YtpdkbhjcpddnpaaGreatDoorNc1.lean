/- The law on units side by side returns true: all ways together.
TopGroupParallel: the statement (a tied card). For every input the law returns true, and each argument reads afterwards as it read before, where the package's tables stand as its initialisers lay them. Printed by a program (gen_card.py). -/
import Derived.Test.YtpdkbhjcpddnpaaGreatDoorNb6
import Derived.Test.YtpdkbhjcpddnpaaGreatDoorNc4
import Derived.Test.YtpdkbhjcpddnpaaGreatDoorNb8
import Derived.Test.YtpdkbhjcpddnpaaGreatDoorNb7
import Derived.Test.YtpdkbhjcpddnpaaGreatDoorNb9
import Derived.Test.YtpdkbhjcpddnpaaGreatDoorNI
import Derived.Test.YtpdkbhjcpddnpaaGreatDoorNb3
import Derived.Test.YtpdkbhjcpddnpaaGreatDoorNC
import Derived.Test.YtpdkbhjcpddnpaaGreatDoorNc2
import Derived.Test.YtpdkbhjcpddnpaaGreatDoorNY
import Derived.Test.YtpdkbhjcpddnpaaGreatDoorNZ
import Derived.ChangeMaps
import Derived.Test.YtpdkbhjcpddnpaaGreatDoorCards
import Derived.Test.YtpdkbhjcpddnpaaGreatDoorTie
import Derived.Lay
import Derived.LaidLaws
import Derived.LaidHandle
import Derived.MakeChecks
import Derived.SevenTiedAt

section
namespace Go.Proofs.YtpdkbhjcpddnpaaGreatDoor
open Go.RowKit

theorem fmt_back {x y : Wind} {n : Int} (hx1 : I64 x.turns) (hx2 : I64 x.shift) (hy1 : I64 y.turns) (hy2 : I64 y.shift) (hn : I64 n) (hE : unitE x.kind x.turns x.shift y.kind y.turns y.shift n = 0) :
    (fmtU x y n).length ≤ 1000 ∧ unitOut (parseU (fmtU x y n)) = (unitV x y n, 0) := by
  have h1 := fmtW_len x hx1 hx2
  have h2 := fmtW_len y hy1 hy2
  have h3 := itoa_len hn.1 hn.2
  have e0 : firstV [windE x.kind x.turns x.shift, windE y.kind y.turns y.shift, unlessV (withinB n 0 100) 2] = 0 := hE
  obtain ⟨e1, e2⟩ := firstV_zero.1 e0
  obtain ⟨e2, e3⟩ := firstV_zero.1 e2
  obtain ⟨e3, _⟩ := firstV_zero.1 e3
  have hk := (unless_ne (by decide)).1 e3
  simp only [withinB, Bool.and_eq_true, decide_eq_true_eq] at hk
  refine ⟨by unfold fmtU; simp; omega, ?_⟩
  rw [parse_unit (windE_ok x.rev e1) (windE_ok y.rev e2) hk.1 (by omega)]
  unfold unitOut
  dsimp only
  rw [if_pos hE]
theorem unit_oks {x y : Wind} {n : Int} (hE : unitE x.kind x.turns x.shift y.kind y.turns y.shift n = 0) : x.ok ∧ y.ok := by
  obtain ⟨h1, h2, _⟩ := unitE_ok x.rev y.rev hE
  exact ⟨h1, h2⟩
theorem i64s_of {n : Int} (h : -1000000000 ≤ n ∧ n ≤ 1000000000) : I64s n := by unfold I64s; omega
theorem imp_ok {s t : Src} (h : SrcsOk [s, t]) : (1 ≤ s.n ∧ s.n ≤ 100) ∧ (1 ≤ s.d ∧ s.d ≤ 100) ∧ (1 ≤ t.n ∧ t.n ≤ 100) ∧ (1 ≤ t.d ∧ t.d ≤ 100) ∧ (-1000000 ≤ s.p ∧ s.p ≤ 1000000) ∧ (-1000000 ≤ s.q ∧ s.q ≤ 1000000) ∧ (-1000000 ≤ t.p ∧ t.p ≤ 1000000) ∧ (-1000000 ≤ t.q ∧ t.q ≤ 1000000) := by
  obtain ⟨h1, h2, h3, h4⟩ := h.2 s (by simp)
  obtain ⟨g1, g2, g3, g4⟩ := h.2 t (by simp)
  exact ⟨h3, h4, g3, g4, h1, h2, g1, g2⟩
theorem mul_bdP {x y : Int} (hx : -8000 ≤ x ∧ x ≤ 8000) (hy : -8000 ≤ y ∧ y ≤ 8000) : -64000000 ≤ x * y ∧ x * y ≤ 64000000 := by
  have h := Sm.mul (m := 8000) (k := 8000) (a := x) (b := y) hx hy (by decide) (by decide)
  unfold Sm at h
  exact h
theorem vo_mul64 {x y : Wind} (hx : x.ok) (hy : y.ok) : W64 (mulP (voP x) (voQ x) (voP y) (voQ y)) ∧ W64 (mulQ (voP x) (voQ x) (voP y) (voQ y)) := by
  obtain ⟨h1, h2⟩ := vo_bd hx
  obtain ⟨h3, h4⟩ := vo_bd hy
  have a := mul_bdP h1 h3
  have b := mul_bdP h2 h4
  have c := mul_bdP h1 h4
  have d := mul_bdP h2 h3
  unfold W64 mulP mulQ
  omega
theorem low01 : lowestB (-0) 1 = true := by decide

set_option maxHeartbeats 4000000 in
theorem par_any (a b c d : Wind) (n m i1 j1 i2 j2 p q : Int) (hI : (I64 a.turns ∧ I64 a.shift) ∧ (I64 b.turns ∧ I64 b.shift) ∧ (I64 c.turns ∧ I64 c.shift) ∧ (I64 d.turns ∧ I64 d.shift) ∧ I64 n ∧ I64 m ∧ (W64 i1 ∧ W64 j1 ∧ W64 i2 ∧ W64 j2)) (w : World) (hT : TwIn w) (hP : PatIn w) (hS : StrIn w) :
    Calls Tryz.prog 5 #[.agg #[.int .i64 a.kind, .int .i64 a.turns, .int .i64 a.shift, .bool a.rev, .int .i64 b.kind, .int .i64 b.turns, .int .i64 b.shift, .bool b.rev, .int .i64 n, .int .i64 c.kind, .int .i64 c.turns, .int .i64 c.shift, .bool c.rev, .int .i64 d.kind, .int .i64 d.turns, .int .i64 d.shift, .bool d.rev, .int .i64 m, .int .i64 i1, .int .i64 j1, .int .i64 i2, .int .i64 j2, .int .i64 p, .int .i64 q]] w fun e w' => e = .returned (.bool true) ∧ Below w.heap.size w w' := by
  obtain ⟨⟨ha1, ha2⟩, ⟨hb1, hb2⟩, ⟨hc1, hc2⟩, ⟨hd1, hd2⟩, hn, hm, hi1, hj1, hi2, hj2⟩ := hI
  have E1 := refUnitErr_any a.kind a.turns a.shift a.rev b.kind b.turns b.shift b.rev n
  have E2 := refUnitErr_any c.kind c.turns c.shift c.rev d.kind d.turns d.shift d.rev m
  by_cases u1 : unitE a.kind a.turns a.shift b.kind b.turns b.shift n = 0
  rotate_left
  · exact par_e1 a.kind a.turns a.shift a.rev b.kind b.turns b.shift b.rev c.kind c.turns c.shift c.rev d.kind d.turns d.shift d.rev n m i1 j1 i2 j2 p q _ E1 u1 w hT hP hS
  rw [u1] at E1
  by_cases u2 : unitE c.kind c.turns c.shift d.kind d.turns d.shift m = 0
  rotate_left
  · exact par_e2 a.kind a.turns a.shift a.rev b.kind b.turns b.shift b.rev c.kind c.turns c.shift c.rev d.kind d.turns d.shift d.rev n m i1 j1 i2 j2 p q _ E1 E2 u2 w hT hP hS
  rw [u2] at E2
  by_cases t0 : (40 : Int) < a.turns
  · exact par_t0 a.kind a.turns a.shift a.rev b.kind b.turns b.shift b.rev c.kind c.turns c.shift c.rev d.kind d.turns d.shift d.rev n m i1 j1 i2 j2 p q E1 E2 t0 w hT hP hS
  by_cases t1 : (40 : Int) < b.turns
  · exact par_t1 a.kind a.turns a.shift a.rev b.kind b.turns b.shift b.rev c.kind c.turns c.shift c.rev d.kind d.turns d.shift d.rev n m i1 j1 i2 j2 p q E1 E2 t0 t1 w hT hP hS
  by_cases t2 : (40 : Int) < c.turns
  · exact par_t2 a.kind a.turns a.shift a.rev b.kind b.turns b.shift b.rev c.kind c.turns c.shift c.rev d.kind d.turns d.shift d.rev n m i1 j1 i2 j2 p q E1 E2 t0 t1 t2 w hT hP hS
  by_cases t3 : (40 : Int) < d.turns
  · exact par_t3 a.kind a.turns a.shift a.rev b.kind b.turns b.shift b.rev c.kind c.turns c.shift c.rev d.kind d.turns d.shift d.rev n m i1 j1 i2 j2 p q E1 E2 t0 t1 t2 t3 w hT hP hS
  obtain ⟨oa, ob⟩ := unit_oks u1
  obtain ⟨oc, od⟩ := unit_oks u2
  obtain ⟨f1, f2⟩ := fmt_back ha1 ha2 hb1 hb2 hn u1
  obtain ⟨f3, f4⟩ := fmt_back hc1 hc2 hd1 hd2 hm u2
  have F1 := fun w hS hP => FormatUnit_any a b n ha1 ha2 hb1 hb2 hn w hS hP
  have F2 := fun w hS hP => FormatUnit_any c d m hc1 hc2 hd1 hd2 hm w hS hP
  have A1 := fun w hS hP => ParseUnit_any (fmtU a b n) f1 w hS hP
  have A2 := fun w hS hP => ParseUnit_any (fmtU c d m) f3 w hS hP
  rw [f2] at A1
  rw [f4] at A2
  dsimp only [unitV] at A1 A2
  have Vo := fun w hP => voltages_any a b c d n m oa ob oc od w hP
  have Mr := fun w hT hP => MayRun_ok a.kind a.turns a.shift a.rev b.kind b.turns b.shift b.rev n c.kind c.turns c.shift c.rev d.kind d.turns d.shift d.rev m 0 u1 u2 (by decide) w hT hP
  have hsame := par_same oa ob oc od
  rw [hsame] at Mr
  clear hsame f1 f2 f3 f4 ha1 ha2 hb1 hb2 hc1 hc2 hd1 hd2 hn hm
  have z1 : mulP (phP (linesV b).x) (phQ (linesV b).x) (phP (linesV c).x) (phQ (linesV c).x) = mulP (voP b) (voQ b) (voP c) (voQ c) := rfl
  have z2 : mulQ (phP (linesV b).x) (phQ (linesV b).x) (phP (linesV c).x) (phQ (linesV c).x) = mulQ (voP b) (voQ b) (voP c) (voQ c) := rfl
  have z3 : mulP (phP (linesV d).x) (phQ (linesV d).x) (phP (linesV a).x) (phQ (linesV a).x) = mulP (voP d) (voQ d) (voP a) (voQ a) := rfl
  have z4 : mulQ (phP (linesV d).x) (phQ (linesV d).x) (phP (linesV a).x) (phQ (linesV a).x) = mulQ (voP d) (voQ d) (voP a) (voQ a) := rfl
  rw [z1, z2, z3, z4] at Mr
  have b64 : ∀ {x y : Wind}, x.ok → y.ok → W64 (mulP (voP x) (voQ x) (voP y) (voQ y)) ∧ W64 (mulQ (voP x) (voQ x) (voP y) (voQ y)) := fun hx hy => vo_mul64 hx hy
  have g1 := b64 ob oc
  have g2 := b64 od oa
  clear z1 z2 z3 z4 b64
  generalize mulP (voP b) (voQ b) (voP c) (voQ c) = P1 at *
  generalize mulQ (voP b) (voQ b) (voP c) (voQ c) = Q1 at *
  generalize mulP (voP d) (voQ d) (voP a) (voQ a) = P2 at *
  generalize mulQ (voP d) (voQ d) (voP a) (voQ a) = Q2 at *
  generalize fmtU a b n = l1 at *
  generalize fmtU c d m = l2 at *
  have h64 : ∀ u ∈ [(⟨P1, Q1, i1, j1⟩ : Src), ⟨P2, Q2, i2, j2⟩], Src64 u := fun u hu => by
    rcases List.mem_cons.1 hu with rfl | hu
    · exact ⟨g1.1, g1.2, hi1, hj1⟩
    · rcases List.mem_cons.1 hu with rfl | hu
      · exact ⟨g2.1, g2.2, hi2, hj2⟩
      · cases hu
  have Sr := fun w b h => two_srcE h64 w b h
  have Cp := fun w b h => two_copy (s := ⟨P1, Q1, i1, j1⟩) (t := ⟨P2, Q2, i2, j2⟩) w b h
  have Ph := refPhasorErr_any p q
  generalize hs : (⟨P1, Q1, i1, j1⟩ : Src) = s at *
  generalize ht : (⟨P2, Q2, i2, j2⟩ : Src) = t at *
  obtain ⟨rfl, rfl, rfl, rfl⟩ : P1 = s.p ∧ Q1 = s.q ∧ i1 = s.n ∧ j1 = s.d := by rw [← hs]; exact ⟨rfl, rfl, rfl, rfl⟩
  obtain ⟨rfl, rfl, rfl, rfl⟩ : P2 = t.p ∧ Q2 = t.q ∧ i2 = t.n ∧ j2 = t.d := by rw [← ht]; exact ⟨rfl, rfl, rfl, rfl⟩
  clear hs ht
  have DR := fun (hok : SrcsOk [s, t]) w b (h : Blk w b 87 #[.int .i64 s.p, .int .i64 s.q, .int .i64 s.n, .int .i64 s.d, .int .i64 t.p, .int .i64 t.q, .int .i64 t.n, .int .i64 t.d]) v cn cd h5 h6 h7 g3 heq => by
    obtain ⟨b1, b2, b3, b4, b5, b6, b7, b8⟩ := imp_ok hok
    exact drops_any s.p s.q s.n s.d t.p t.q t.n t.d v cn cd b w h (i64s_of (by omega)) (i64s_of (by omega)) (i64s_of (by omega)) (i64s_of (by omega)) h5 h6 h7 (by omega) (by omega) g3 heq
  have VV : SrcsOk [s, t] → (s.p - t.p = s.p - t.p ∧ IntKind.i64.wrap (s.p - t.p) = s.p - t.p ∧ RowKit.wrap64 (s.p - t.p) = s.p - t.p) ∧ (s.q - t.q = s.q - t.q ∧ IntKind.i64.wrap (s.q - t.q) = s.q - t.q ∧ RowKit.wrap64 (s.q - t.q) = s.q - t.q) ∧ I64s (s.p - t.p) ∧ I64s (s.q - t.q) := fun hok => by
    obtain ⟨b1, b2, b3, b4, b5, b6, b7, b8⟩ := imp_ok hok
    exact ⟨⟨rfl, wrap_eq rfl (by omega)⟩, ⟨rfl, wrap_eq rfl (by omega)⟩, i64s_of (by omega), i64s_of (by omega)⟩
  cases hph : phB s.p s.q t.p t.q with
  | false =>
    rw [hph] at Mr
    refine par_false a.kind a.turns a.shift a.rev b.kind b.turns b.shift b.rev c.kind c.turns c.shift c.rev d.kind d.turns d.shift d.rev n m s.n s.d t.n t.d p q _ _ l1 l2 _ _ _ _ (srcCells [s, t]) E1 E2 t0 t1 t2 t3 F1 F2 A1 A2 Vo Mr hph Sr Ph Cp ?_ w hT hP hS
    intro k1 k2
    have l0 := two_load0 k1
    have lL := two_loadE (p := p) (q := q) k1 k2
    obtain ⟨hok, _, _⟩ := loadE_ok lL
    by_cases k3 : allSmall [s, t] 0 0
    rotate_left
    · exact .inl (two_big h64 l0 k3)
    obtain ⟨v1, v2, v3, v4⟩ := VV hok
    obtain ⟨xn, xd, yn, yd, w0, w1, w2, w3, w4, w5, w6⟩ := par_cur0 hok k3
    refine .inr ⟨s.p - t.p, s.q - t.q, -xn, xd, -yn, yd, xn, xd, yn, yd, fun w A c h => two_good h64 l0 k3 (by rw [w0]; rfl) (by simp) w A c h, opposite_any xn xd w1.1 w1.2 w3, opposite_any yn yd w2.1 w2.2 w4,
      fun w b h => DR hok w b h (s.p - t.p) (-xn) xd (i64s_of (by omega)) (i64s_of (by omega)) v3 (by omega) w5, fun w b h => DR hok w b h (s.q - t.q) (-yn) yd (i64s_of (by omega)) (i64s_of (by omega)) v4 (by omega) w6, v1, v2, ?_⟩
    by_cases k4 : allSmall [s, t] p q
    rotate_left
    · exact .inl (two_big h64 lL k4)
    obtain ⟨x1, y1, x2, y2, e0, _, _, _⟩ := par_load hok p q
    have eu : cuCells (curCs [s, t] p q) = [.int .i64 x1.num, .int .i64 x1.den, .int .i64 y1.num, .int .i64 y1.den, .int .i64 x2.num, .int .i64 x2.den, .int .i64 y2.num, .int .i64 y2.den] := by rw [e0]; rfl
    exact .inr ⟨_, _, _, _, _, _, _, _, fun w A c h => two_good h64 lL k4 eu (by simp) w A c h, fun w g o c h => two_copyC eu rfl w g o c h, fun w A A2 c c2 h h2 => two_check h64 lL hok k4 eu w A A2 c c2 h h2⟩
  | true =>
    rw [hph] at Mr
    have hpq := (phB_iff _ _ _ _).1 hph
    have hp : s.p = t.p := congrArg Prod.fst hpq
    have hq : s.q = t.q := congrArg Prod.snd hpq
    refine par_true a.kind a.turns a.shift a.rev b.kind b.turns b.shift b.rev c.kind c.turns c.shift c.rev d.kind d.turns d.shift d.rev n m s.n s.d t.n t.d p q _ _ l1 l2 _ _ _ _ (srcCells [s, t]) E1 E2 t0 t1 t2 t3 F1 F2 A1 A2 Vo Mr hph Sr Ph Cp ?_ w hT hP hS
    intro k1 k2
    have l0 := two_load0 k1
    have lL := two_loadE (p := p) (q := q) k1 k2
    obtain ⟨hok, _, _⟩ := loadE_ok lL
    by_cases k3 : allSmall [s, t] 0 0
    rotate_left
    · exact .inl (two_big h64 l0 k3)
    obtain ⟨v1, v2, v3, v4⟩ := VV hok
    have O1 := opposite_any 0 1 (by omega) (by omega) low01
    have q1 : (Rat.divInt s.n s.d + Rat.divInt t.n t.d) * Rat.divInt 0 1 = ((s.p - t.p : Int) : Rat) := by
      rw [hp, Int.sub_self, Rat.zero_divInt, Rat.mul_zero]; rfl
    have q2 : (Rat.divInt s.n s.d + Rat.divInt t.n t.d) * Rat.divInt 0 1 = ((s.q - t.q : Int) : Rat) := by
      rw [hq, Int.sub_self, Rat.zero_divInt, Rat.mul_zero]; rfl
    refine .inr ⟨s.p - t.p, s.q - t.q, fun w A c h => two_good h64 l0 k3 (by rw [par_zero hok hp hq]; rfl) (by simp) w A c h, O1, O1,
      fun w b h => DR hok w b h (s.p - t.p) 0 1 (i64s_of (by omega)) (i64s_of (by omega)) v3 (by omega) q1, fun w b h => DR hok w b h (s.q - t.q) 0 1 (i64s_of (by omega)) (i64s_of (by omega)) v4 (by omega) q2, v1, v2, ?_⟩
    by_cases k4 : allSmall [s, t] p q
    rotate_left
    · exact .inl (two_big h64 lL k4)
    obtain ⟨x1, y1, x2, y2, e0, e1, e2, e3⟩ := par_load hok p q
    obtain ⟨⟨s1, s2⟩, s3, s4⟩ := e1 k4
    have eu : cuCells (curCs [s, t] p q) = [.int .i64 x1.num, .int .i64 x1.den, .int .i64 y1.num, .int .i64 y1.den, .int .i64 x2.num, .int .i64 x2.den, .int .i64 y2.num, .int .i64 y2.den] := by rw [e0]; rfl
    refine .inr ⟨_, _, _, _, _, _, _, _, fun w A c h => two_good h64 lL k4 eu (by simp) w A c h, fun w g o c h => two_copyC eu rfl w g o c h, fun w A A2 c c2 h h2 => two_check h64 lL hok k4 eu w A A2 c c2 h h2, fun k5 => ?_⟩
    obtain ⟨r1, r2⟩ := e3 hq k5
    have hx := e2 hp
    obtain ⟨b1, b2, b3, b4, _⟩ := imp_ok hok
    obtain ⟨_, p1, p2, p3⟩ := small_ok s1
    obtain ⟨_, p4, p5, p6⟩ := small_ok s3
    have X1 := fun w => ratioFrom_any x1.num x1.den w (i64s_of p1) (i64s_of (by omega)) (by omega)
    have X2 := fun w => ratioFrom_any x2.num x2.den w (i64s_of p4) (i64s_of (by omega)) (by omega)
    rw [rat_self] at X1 X2
    have Z1 := fun w => ratioFrom_any s.n s.d w (i64s_of (by omega)) (i64s_of (by omega)) (by omega)
    have Z2 := fun w => ratioFrom_any t.n t.d w (i64s_of (by omega)) (i64s_of (by omega)) (by omega)
    have rb1 : RB 3 x1 := ⟨dl_small (by omega), dl_small (by omega)⟩
    have rb2 : RB 3 x2 := ⟨dl_small (by omega), dl_small (by omega)⟩
    have rz1 : RB 3 (Rat.divInt s.n s.d) := rb_of (by omega) (by omega) (by omega)
    have rz2 : RB 3 (Rat.divInt t.n t.d) := rb_of (by omega) (by omega) (by omega)
    have M1 := fun w A c A2 c2 B d B2 d2 h1 h2 => ratioMul_any x1 (Rat.divInt s.n s.d) 3 A c A2 c2 B d B2 d2 w h1 h2 rb1 rz1 (by decide)
    have M2 := fun w A c A2 c2 B d B2 d2 h1 h2 => ratioMul_any x2 (Rat.divInt t.n t.d) 3 A c A2 c2 B d B2 d2 w h1 h2 rb2 rz2 (by decide)
    rw [← hx] at M2
    have Cm := fun w A c A2 c2 B d B2 d2 h1 h2 => cmp_same (r := x1 * Rat.divInt s.n s.d) w A c A2 c2 B d B2 d2 h1 h2 (rb_mul rb1 rz1)
    rw [r1, r2]
    exact ⟨⟨rfl, rfl, rfl, rfl⟩, _, _, _, _, _, X1, X2, Z1, Z2, M1, M2, Cm⟩

end Go.Proofs.YtpdkbhjcpddnpaaGreatDoor
end

section
namespace Go.Proofs.YtpdkbhjcpddnpaaGreatDoor
open Go.ChangeShapes Go.WideShapes Go.ChangeAt Go.RowKit Go.Joins

set_option maxRecDepth 100000 in
theorem topGroupParallel_met (os : Os) (args : Array Value) : laidMetH Tryz.prog Rows.topGroupParallelRow.laid ((World.laidAll Tryz.prog os Rows.topGroupParallelRow.laid).forCall (fun _ _ => 0) ⟨#[], args, []⟩).memory := by
  rw [MakeChecks.laidMetH_plain _ _ _ (by kernel_rfl)]
  exact laidMet_laidAll args (by kernel_rfl) (by kernel_rfl)

set_option maxRecDepth 100000 in
theorem topGroupParallel_lifted (os : Os) (started : os.Started) (H : Type) (enc : TypeId × Value → H) :
    ReturnsInHanded {} Tryz.checked os 5 .any (fun w args => (Rows.topGroupParallelSpec.pre enc Tryz.prog Tryz.f5 [] false w args ∧ laidMetH Tryz.prog Rows.topGroupParallelRow.laid w) ∧ sizedMet enc Tryz.prog Tryz.f5 (OpenSpec.ofChange Rows.topGroupParallelSpec) false w args)
      (Rows.topGroupParallelSpec.post enc Tryz.prog Tryz.f5 false true false false) := by
  refine returnsIn_and_shaped (C := Tryz.checked) (X := fun w _ => laidMetH Tryz.prog Rows.topGroupParallelRow.laid w) (fun _ _ _ hh h => h.of_heap hh) own_knob started (by kernel_rfl) Tryz.func5
    (ChangeSpec.witness_shaped (enc := enc) (C := Tryz.checked) (os := os) (X := fun w _ => laidMetH Tryz.prog Rows.topGroupParallelRow.laid w) false (World.laidAll Tryz.prog os Rows.topGroupParallelRow.laid) #[.agg #[.int .i64 0, .int .i64 0, .int .i64 0, .bool false, .int .i64 0, .int .i64 0, .int .i64 0, .bool false, .int .i64 0, .int .i64 0, .int .i64 0, .int .i64 0, .bool false, .int .i64 0, .int .i64 0, .int .i64 0, .bool false, .int .i64 0, .int .i64 0, .int .i64 0, .int .i64 0, .int .i64 0, .int .i64 0, .int .i64 0]] 8 (World.laidAll_os _ _ _) (World.shaped_of_ZipB (by kernel_rfl) (by kernel_rfl)) (by kernel_rfl) (by kernel_rfl) (by kernel_rfl) (topGroupParallel_met os _)) ?_
  intro W base args ds gs before hval0 hW _ _ hL hSO _
  have hval : ∀ (j : Nat) t v, Tryz.f5.params[j]? = some t → args[j]? = some v → Value.okWide Tryz.prog W .any base t v := hval0
  have hW' := hW
  obtain ⟨p, q, hA0, hV, rfl, hfz, hnd⟩ := hW
  have hA : DataW.TrodAll enc Tryz.prog W 0 (fun _ => true) true Tryz.f5.params.toList args.toList ds p := hA0
  rw [Tryz.params5] at hA hval
  obtain ⟨v0, vs0, d0, ds0, p0, q0, hargs, rfl, rfl, h0, r0⟩ := trodAll_cons hA
  obtain ⟨rfl, rfl, rfl⟩ := trodAll_nil r0
  obtain rfl : args = #[v0] := by cases args; simp_all
  obtain ⟨axk, axt, axs, axr, bxk, bxt, bxs, bxr, ux, cxk, cxt, cxs, cxr, dxk, dxt, dxs, dxr, vx, ix1, jx1, ix2, jx2, lx, mx, rfl, hI⟩ := open_pair (hval 0 _ v0 rfl rfl) h0
  rw [MakeChecks.laidMetH_plain _ _ _ (by kernel_rfl)] at hL
  have hT := tw_reads (Lib.laidMet.reads hL (n := "buchholz/group.twelfths") (d := Rows.laid_buchholz_group_twelfths) (by simp [Rows.topGroupParallelRow]))
  have hP := pat_reads (Lib.laidMet.reads hL (n := "buchholz/group.patterns") (d := Rows.laid_buchholz_group_patterns) (by simp [Rows.topGroupParallelRow]))
  have hTab : Lib.TabIs Tryz.prog W "internal/strconv.uint64pow10" .u64 Lib.pow10Tab := tab_reads (Lib.laidMet.reads hL (n := "internal/strconv.uint64pow10") (d := Rows.laid_internal_strconv_uint64pow10) (by simp [Rows.topGroupParallelRow])) (g := 6) (t := 247) (by kernel_rfl) (by kernel_rfl) Tryz.underlying247 Tryz.underlying169 (by kernel_rfl) (by kernel_rfl)
  have hE1 := err_reads (Lib.laidMet.reads hL (n := "strconv.ErrSyntax") (d := Rows.laid_strconv_ErrSyntax) (by simp [Rows.topGroupParallelRow])) (g := 4) (T := 188) (by kernel_rfl) (by kernel_rfl) Tryz.underlying188
  have hE2 := err_reads (Lib.laidMet.reads hL (n := "strconv.ErrRange") (d := Rows.laid_strconv_ErrRange) (by simp [Rows.topGroupParallelRow])) (g := 5) (T := 188) (by kernel_rfl) (by kernel_rfl) Tryz.underlying188
  have hM : ∃ m : Int, W.cell? ⟨3, 0, none⟩ = some (.int .i64 m) := cell_of_shapedOpen_int (zero := #[.int .i64 0]) (t := 3) hSO (of_decide_eq_true (by kernel_rfl)) (by kernel_rfl) rfl (by kernel_rfl) (by kernel_rfl) Tryz.underlying3
  have hS : StrIn W := ⟨hTab, hM, hE1, hE2⟩
  clear hA0 hval0 hval hA hL h0 r0
  refine (par_any ⟨axk, axt, axs, axr⟩ ⟨bxk, bxt, bxs, bxr⟩ ⟨cxk, cxt, cxs, cxr⟩ ⟨dxk, dxt, dxs, dxr⟩ ux vx ix1 jx1 ix2 jx2 lx mx hI W hT hP hS).mono fun e W' ⟨he, hb⟩ => ?_
  subst he
  exact law_end laid_out (fun t ht => (by decide +kernel : ∀ t ∈ Tryz.f5.params.toList, Tryz.prog.readableRec t = true ∧ t < Tryz.prog.types.size) t ht) rfl Tryz.underlying4 rfl rfl hW' hb

theorem topGroupParallel_said : Rows.TopGroupParallelSaid :=
  OpenClaim.holds_of_wide 5 Tryz.f5 rfl rfl rfl rfl rfl rfl rfl ⟨rfl, rfl, rfl, rfl, rfl⟩ rfl rfl rfl rfl rfl (by kernel_rfl) Tryz.func5 (by kernel_rfl)
    (of_decide_eq_true (by kernel_rfl)) (by unfold Func.isWrapper; first | (rw [if_pos (by decide +kernel)]; kernel_rfl) | (rw [if_neg (by decide +kernel)]; exact ⟨rfl, rfl⟩))
    (fun os started H enc _ => topGroupParallel_lifted os started H enc)

/-- No parameter wants a stand-in; the program's own looks are off. -/
theorem topGroupParallel_plain (f : FuncId) (fn : Func) (hf : Tryz.pinned.checked.prog.funcNamed "buchholz/buchholztop.TopGroupParallel" = some f) (hfn : Tryz.pinned.checked.prog.funcs[f]? = some fn) :
    true = Tryz.pinned.checked.prog.looks [] ∧ ∀ (j : Nat) t, fn.params[j]? = some t → Tryz.pinned.checked.prog.wantsStandIn t = false := by
  obtain rfl : f = 5 := Option.some.inj ((show Tryz.prog.funcNamed "buchholz/buchholztop.TopGroupParallel" = some 5 by kernel_rfl).symm.trans hf) |>.symm
  obtain rfl : fn = Tryz.f5 := (Option.some.inj (Tryz.func5.symm.trans hfn)).symm
  refine ⟨by kernel_rfl, fun j t ht => ?_⟩
  have hm : t ∈ Tryz.f5.params.toList := by simpa using Array.mem_of_getElem? ht
  exact (by decide +kernel : ∀ t ∈ Tryz.f5.params.toList, Tryz.prog.wantsStandIn t = false) t hm

/-- THE CARD. -/
theorem topGroupParallel_holds : Rows.TopGroupParallelCardSaid :=
  Claim7.holds_tied_plain_at .later [] _ _ _ _ topGroupParallel_said (fun _ h => by cases h) (by kernel_rfl) (fun _ h => by cases h) topGroupParallel_row_tie rfl ⟨rfl, rfl⟩ (by kernel_rfl) rfl topGroupParallel_plain (by kernel_rfl)
#print axioms topGroupParallel_holds

end Go.Proofs.YtpdkbhjcpddnpaaGreatDoor
end
