/- The law on balanced windings, whole: it returns true. Printed by a program (gen_balall.py). -/
import Derived.Test.YtnhcamokcggnkaaDoorHGBal
namespace Go.Proofs.YtnhcamokcggnkaaDoor
open Go.RowKit

theorem base_rows : ∀ k ∈ [(0 : Int), 1, 2], ∀ s ∈ [(0 : Int), 1, 2], ∀ r : Bool,
    ((hoursV (phP (rowsV (if r then -1 else 1) k s).x) (phQ (rowsV (if r then -1 else 1) k s).x)).isSome = true ∧ (hoursV (phP (rowsV (if r then -1 else 1) k s).y) (phQ (rowsV (if r then -1 else 1) k s).y)).isSome = true ∧ (hoursV (phP (rowsV (if r then -1 else 1) k s).z) (phQ (rowsV (if r then -1 else 1) k s).z)).isSome = true)
    ∧ (sqV (phP (rowsV (if r then -1 else 1) k s).x) (phQ (rowsV (if r then -1 else 1) k s).x) = (if k = 0 then 3 else if k = 1 then 1 else 9) ∧ sqV (phP (rowsV (if r then -1 else 1) k s).y) (phQ (rowsV (if r then -1 else 1) k s).y) = (if k = 0 then 3 else if k = 1 then 1 else 9) ∧ sqV (phP (rowsV (if r then -1 else 1) k s).z) (phQ (rowsV (if r then -1 else 1) k s).z) = (if k = 0 then 3 else if k = 1 then 1 else 9))
    ∧ (phP (rowsV (if r then -1 else 1) k s).x + phP (rowsV (if r then -1 else 1) k s).y + phP (rowsV (if r then -1 else 1) k s).z = 0 ∧ phQ (rowsV (if r then -1 else 1) k s).x + phQ (rowsV (if r then -1 else 1) k s).y + phQ (rowsV (if r then -1 else 1) k s).z = 0)
    ∧ (k = 1 ∨ ((rowsV (if r then -1 else 1) k s).x.a + (rowsV (if r then -1 else 1) k s).y.a + (rowsV (if r then -1 else 1) k s).z.a = 0 ∧ (rowsV (if r then -1 else 1) k s).x.b + (rowsV (if r then -1 else 1) k s).y.b + (rowsV (if r then -1 else 1) k s).z.b = 0 ∧ (rowsV (if r then -1 else 1) k s).x.c + (rowsV (if r then -1 else 1) k s).y.c + (rowsV (if r then -1 else 1) k s).z.c = 0)) := by decide +kernel

/-- A row of lines: its hours, its square. -/
theorem row_facts {m f : Int} (hm : 0 < m) {v : V3} (h1 : (hoursV (phP v) (phQ v)).isSome = true) (h2 : sqV (phP v) (phQ v) = f) :
    (∃ h, hoursV (phP (scaleV m v)) (phQ (scaleV m v)) = some h) ∧ sqV (phP (scaleV m v)) (phQ (scaleV m v)) = m * m * f := by
  refine ⟨?_, ?_⟩
  · rw [hours_scale hm]; exact Option.isSome_iff_exists.1 h1
  · rw [phP_scale, phQ_scale, sq_scale, h2]

theorem bal_facts {k t s : Int} {r : Bool} (hu : (Wind.mk k t s r).ok) (L : L3) (hL : linesV ⟨k, t, s, r⟩ = L) :
    ((∃ h, hoursV (phP L.x) (phQ L.x) = some h) ∧ sqV (phP L.x) (phQ L.x) = t * t * (if k = 0 then 3 else if k = 1 then 1 else 9)) ∧
    ((∃ h, hoursV (phP L.y) (phQ L.y) = some h) ∧ sqV (phP L.y) (phQ L.y) = t * t * (if k = 0 then 3 else if k = 1 then 1 else 9)) ∧
    ((∃ h, hoursV (phP L.z) (phQ L.z) = some h) ∧ sqV (phP L.z) (phQ L.z) = t * t * (if k = 0 then 3 else if k = 1 then 1 else 9)) ∧
    (phP L.x + phP L.y + phP L.z = 0 ∧ phQ L.x + phQ L.y + phQ L.z = 0) ∧
    (k = 1 ∨ (L.x.a + L.y.a + L.z.a = 0 ∧ L.x.b + L.y.b + L.z.b = 0 ∧ L.x.c + L.y.c + L.z.c = 0)) := by
  have hm : 0 < t := by have := hu.2.2.1; dsimp only at this; omega
  obtain ⟨⟨a1, a2, a3⟩, ⟨b1, b2, b3⟩, ⟨c1, c2⟩, d⟩ := base_rows _ (ok_mem hu).1 _ (ok_mem hu).2 r
  have hl := linesV_scale ⟨k, t, s, r⟩
  rw [hL] at hl
  subst hl
  refine ⟨row_facts hm a1 b1, row_facts hm a2 b2, row_facts hm a3 b3, ⟨?_, ?_⟩, ?_⟩
  · show phP (scaleV t _) + phP (scaleV t _) + phP (scaleV t _) = 0
    rw [phP_scale, phP_scale, phP_scale, ← Int.mul_add, ← Int.mul_add]
    exact (congrArg (t * ·) c1).trans (Int.mul_zero t)
  · show phQ (scaleV t _) + phQ (scaleV t _) + phQ (scaleV t _) = 0
    rw [phQ_scale, phQ_scale, phQ_scale, ← Int.mul_add, ← Int.mul_add]
    exact (congrArg (t * ·) c2).trans (Int.mul_zero t)
  · rcases d with d | ⟨d1, d2, d3⟩
    · exact .inl d
    · refine .inr ⟨?_, ?_, ?_⟩
      · show t * _ + t * _ + t * _ = 0
        rw [← Int.mul_add, ← Int.mul_add]; exact (congrArg (t * ·) d1).trans (Int.mul_zero t)
      · show t * _ + t * _ + t * _ = 0
        rw [← Int.mul_add, ← Int.mul_add]; exact (congrArg (t * ·) d2).trans (Int.mul_zero t)
      · show t * _ + t * _ + t * _ = 0
        rw [← Int.mul_add, ← Int.mul_add]; exact (congrArg (t * ·) d3).trans (Int.mul_zero t)

theorem ph_zero {p q : Int} (hp : Sm 1000000 p) (hq : Sm 1000000 q) : phE p q = 0 := by
  unfold Sm at hp hq
  simp [phE, withinB, unlessV, hp, hq]
theorem square_of {p q N : Int} (hp : Sm 1000000 p) (hq : Sm 1000000 q) (h : sqV p q = N) (w : World) :
    Calls Tryd.prog 22 #[.agg #[.int .i64 p, .int .i64 q]] w fun e w' => e = .returned (.tuple #[.int .i64 N, .int .i64 0]) ∧ Below w.heap.size w w' := by
  have h1 := SquareOf_any p q w
  rw [ph_zero hp hq, if_pos rfl, h] at h1
  exact h1
theorem hours_of {p q h : Int} (hp : Sm 1000000 p) (hq : Sm 1000000 q) (hh : hoursV p q = some h) (w : World) (hT : TwIn w) :
    Calls Tryd.prog 23 #[.agg #[.int .i64 p, .int .i64 q]] w fun e w' => e = .returned (.tuple #[.int .i64 h, .int .i64 0]) ∧ Below w.heap.size w w' := by
  have h1 := HoursOf_any p q (ph_zero hp hq) w hT
  rw [hoursE_of hh, hh] at h1
  exact h1
theorem within_hour {p q h : Int} (hh : hoursV p q = some h) : withinB h 0 11 = true := by
  have := hoursV_range hh
  simp [withinB, this]

theorem bal_walk (k t s : Int) (r : Bool) (w : World) (hT : TwIn w) (hP : PatIn w) :
    Calls Tryd.prog 6 #[.agg #[.int .i64 k, .int .i64 t, .int .i64 s, .bool r]] w fun e w' => e = .returned (.bool true) ∧ Below w.heap.size w w' := by
  by_cases he : windE k t s = 0
  · have hu := windE_ok r he
    obtain ⟨L, hL⟩ : ∃ L, linesV ⟨k, t, s, r⟩ = L := ⟨_, rfl⟩
    obtain ⟨⟨⟨h0, e0⟩, n0⟩, ⟨⟨h1, e1⟩, n1⟩, ⟨⟨h2, e2⟩, n2⟩, ⟨p3, q3⟩, lim⟩ := bal_facts hu L hL
    obtain ⟨s1, s2, s3, s4, s5, s6, s7, s8, s9⟩ := linesV_sm hu
    have hsq := lines_seq hu
    rw [hL] at s1 s2 s3 s4 s5 s6 s7 s8 s9 hsq
    have ht1 := hu.2.2.1
    have ht2 := hu.2.2.2.1
    dsimp only at ht1 ht2
    have m10 : ∀ {x : Int}, Sm 4000 x → Sm 10000 x := fun h => by unfold Sm at *; omega
    have le : lineE L.x.a L.x.b L.x.c L.y.a L.y.b L.y.c L.z.a L.z.b L.z.c = 0 := lineE_of (m10 s1) (m10 s2) (m10 s3) (m10 s4) (m10 s5) (m10 s6) (m10 s7) (m10 s8) (m10 s9)
    have le1 : lineE L.y.a L.y.b L.y.c L.z.a L.z.b L.z.c L.x.a L.x.b L.x.c = 0 := lineE_of (m10 s4) (m10 s5) (m10 s6) (m10 s7) (m10 s8) (m10 s9) (m10 s1) (m10 s2) (m10 s3)
    have le2 : lineE L.z.a L.z.b L.z.c L.x.a L.x.b L.x.c L.y.a L.y.b L.y.c = 0 := lineE_of (m10 s7) (m10 s8) (m10 s9) (m10 s1) (m10 s2) (m10 s3) (m10 s4) (m10 s5) (m10 s6)
    have sub : ∀ {x y : Int}, Sm 4000 x → Sm 4000 y → Sm 8000 (x - y) := fun h h' => by unfold Sm at *; omega
    have big : ∀ {x : Int}, Sm 8000 x → Sm 1000000 x := fun h => by unfold Sm at *; omega
    have hz : phB (L.x.a - L.x.b) (L.x.c - L.x.b) 0 0 = false := by
      cases hb : phB (L.x.a - L.x.b) (L.x.c - L.x.b) 0 0
      · rfl
      · have := (phB_iff _ _ _ _).1 hb
        injection this with i1 i2
        unfold phP phQ at e0
        rw [i1, i2] at e0
        cases e0
    have hseq : ∀ w, Calls Tryd.prog 30 #[.agg #[.int .i64 L.x.a, .int .i64 L.x.b, .int .i64 L.x.c, .int .i64 L.y.a, .int .i64 L.y.b, .int .i64 L.y.c, .int .i64 L.z.a, .int .i64 L.z.b, .int .i64 L.z.c]] w fun e w' => e = .returned (.tuple #[.int .i64 1, .int .i64 0]) ∧ Below w.heap.size w w' := fun w => by
      have h := SequenceOf_ok L.x.a L.x.b L.x.c L.y.a L.y.b L.y.c L.z.a L.z.b L.z.c le hz w
      rw [show seqV (⟨⟨L.x.a, L.x.b, L.x.c⟩, ⟨L.y.a, L.y.b, L.y.c⟩, ⟨L.z.a, L.z.b, L.z.c⟩⟩ : L3) = 1 from hsq] at h
      exact h
    simp only [phP, phQ] at e0 e1 e2 n0 n1 n2 p3 q3
    have g1 := sub s1 s2; have g2 := sub s3 s2; have g3 := sub s4 s5; have g4 := sub s6 s5; have g5 := sub s7 s8; have g6 := sub s9 s8
    have w1 : ∀ {x : Int}, Sm 100000000 x → IntKind.i64.wrap x = x := fun h => IntWalk.i64_in _ (by unfold Sm at h; omega)
    have tt : t * t ≤ 2000 * 2000 := Int.mul_le_mul ht2 ht2 (by omega) (by decide)
    have tt0 : 0 ≤ t * t := Int.mul_nonneg (by omega) (by omega)
    have hk : k = 0 ∨ k = 1 ∨ k = 2 := by have := hu.1; have := hu.2.1; dsimp only at *; omega
    rcases hk with rfl | rfl | rfl
    · rw [if_pos rfl] at n0 n1 n2
      have nn : t * t * 3 = 3 * t * t := by rw [Int.mul_comm (t * t), Int.mul_assoc]
      rw [nn] at n0 n1 n2
      have nb : Sm 100000000 (3 * t * t) := by rw [← nn]; unfold Sm; omega
      obtain ⟨d1, d2, d3⟩ := lim.resolve_left (by decide)
      exact bal_0 t s r L.x.a L.x.b L.x.c L.y.a L.y.b L.y.c L.z.a L.z.b L.z.c _ _ _ _ _ _ (3 * t) (3 * t * t) h0 h1 h2 _ _ w hT hP he (fun w h => LinesOf_ok 0 t s r hu L hL w h) hseq
        (PhasorOf_ok _ _ _ _ _ _ _ _ _ le) (square_of (big g1) (big g2) n0) (hours_of (big g1) (big g2) e0) (within_hour e0)
        (PhasorOf_ok _ _ _ _ _ _ _ _ _ le1) (square_of (big g3) (big g4) n1) (hours_of (big g3) (big g4) e1) (within_hour e1)
        (PhasorOf_ok _ _ _ _ _ _ _ _ _ le2) (square_of (big g5) (big g6) n2) (hours_of (big g5) (big g6) e2) (within_hour e2)
        (w1 (by unfold Sm; omega)) (w1 nb) (w1 (by unfold Sm at *; omega)) (w1 (by unfold Sm at *; omega)) (by rw [p3]; rfl) (w1 (by unfold Sm at *; omega)) (w1 (by unfold Sm at *; omega)) (by rw [q3]; rfl) (L.x.a + L.y.a) (w1 (by unfold Sm at *; omega)) (by rw [d1]; rfl) (L.x.b + L.y.b) (w1 (by unfold Sm at *; omega)) (by rw [d2]; rfl) (L.x.c + L.y.c) (w1 (by unfold Sm at *; omega)) (by rw [d3]; rfl)
    · rw [if_neg (by decide), if_pos rfl] at n0 n1 n2
      have nn : t * t * 1 = 1 * t * t := by rw [Int.mul_comm (t * t), Int.mul_assoc]
      rw [nn] at n0 n1 n2
      have nb : Sm 100000000 (1 * t * t) := by rw [← nn]; unfold Sm; omega
      exact bal_1 t s r L.x.a L.x.b L.x.c L.y.a L.y.b L.y.c L.z.a L.z.b L.z.c _ _ _ _ _ _ (1 * t) (1 * t * t) h0 h1 h2 _ _ w hT hP he (fun w h => LinesOf_ok 1 t s r hu L hL w h) hseq
        (PhasorOf_ok _ _ _ _ _ _ _ _ _ le) (square_of (big g1) (big g2) n0) (hours_of (big g1) (big g2) e0) (within_hour e0)
        (PhasorOf_ok _ _ _ _ _ _ _ _ _ le1) (square_of (big g3) (big g4) n1) (hours_of (big g3) (big g4) e1) (within_hour e1)
        (PhasorOf_ok _ _ _ _ _ _ _ _ _ le2) (square_of (big g5) (big g6) n2) (hours_of (big g5) (big g6) e2) (within_hour e2)
        (w1 (by unfold Sm; omega)) (w1 nb) (w1 (by unfold Sm at *; omega)) (w1 (by unfold Sm at *; omega)) (by rw [p3]; rfl) (w1 (by unfold Sm at *; omega)) (w1 (by unfold Sm at *; omega)) (by rw [q3]; rfl)
    · rw [if_neg (by decide), if_neg (by decide)] at n0 n1 n2
      have nn : t * t * 9 = 9 * t * t := by rw [Int.mul_comm (t * t), Int.mul_assoc]
      rw [nn] at n0 n1 n2
      have nb : Sm 100000000 (9 * t * t) := by rw [← nn]; unfold Sm; omega
      obtain ⟨d1, d2, d3⟩ := lim.resolve_left (by decide)
      exact bal_2 t s r L.x.a L.x.b L.x.c L.y.a L.y.b L.y.c L.z.a L.z.b L.z.c _ _ _ _ _ _ (9 * t) (9 * t * t) h0 h1 h2 _ _ w hT hP he (fun w h => LinesOf_ok 2 t s r hu L hL w h) hseq
        (PhasorOf_ok _ _ _ _ _ _ _ _ _ le) (square_of (big g1) (big g2) n0) (hours_of (big g1) (big g2) e0) (within_hour e0)
        (PhasorOf_ok _ _ _ _ _ _ _ _ _ le1) (square_of (big g3) (big g4) n1) (hours_of (big g3) (big g4) e1) (within_hour e1)
        (PhasorOf_ok _ _ _ _ _ _ _ _ _ le2) (square_of (big g5) (big g6) n2) (hours_of (big g5) (big g6) e2) (within_hour e2)
        (w1 (by unfold Sm; omega)) (w1 nb) (w1 (by unfold Sm at *; omega)) (w1 (by unfold Sm at *; omega)) (by rw [p3]; rfl) (w1 (by unfold Sm at *; omega)) (w1 (by unfold Sm at *; omega)) (by rw [q3]; rfl) (L.x.a + L.y.a) (w1 (by unfold Sm at *; omega)) (by rw [d1]; rfl) (L.x.b + L.y.b) (w1 (by unfold Sm at *; omega)) (by rw [d2]; rfl) (L.x.c + L.y.c) (w1 (by unfold Sm at *; omega)) (by rw [d3]; rfl)
  · exact bal_bad k t s r he w hT hP

end Go.Proofs.YtnhcamokcggnkaaDoor
