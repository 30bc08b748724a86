/- The law on units that can be matched, whole: it returns true. Printed by a program (gen_matchedall.py). -/
import Derived.Test.YtnhcamokcggnkaaGreatDoorJI0Mat
import Derived.Test.YtnhcamokcggnkaaGreatDoorJI1Mat
import Derived.Test.YtnhcamokcggnkaaGreatDoorJI2Mat
import Derived.Test.YtnhcamokcggnkaaGreatDoorJI3Mat
import Derived.Test.YtnhcamokcggnkaaGreatDoorJI4Mat
import Derived.Test.YtnhcamokcggnkaaGreatDoorH0Seq
import Derived.Test.YtnhcamokcggnkaaGreatDoorHRHours
namespace Go.Proofs.YtnhcamokcggnkaaGreatDoor
open Go.RowKit

theorem nineSmE {l : L3} (h : NineSm 10000 l) : lineE l.x.a l.x.b l.x.c l.y.a l.y.b l.y.c l.z.a l.z.b l.z.c = 0 :=
  lineE_of h.1.1 h.1.2.1 h.1.2.2 h.2.1.1 h.2.1.2.1 h.2.1.2.2 h.2.2.1 h.2.2.2.1 h.2.2.2.2
theorem ph_small {p q : Int} (hp : Sm 1000000 p) (hq : Sm 1000000 q) : phE p q = 0 := by
  unfold Sm at hp hq
  simp [phE, withinB, unlessV, hp, hq]
theorem small_ph {l : L3} (h : NineSm 10000 l) : Sm 1000000 (l.x.a - l.x.b) ∧ Sm 1000000 (l.x.c - l.x.b) := by
  obtain ⟨⟨h1, h2, h3⟩, _⟩ := h
  unfold Sm at *; omega
/-- What lines with hours are worth: contracts. -/
theorem hours_of {l : L3} (h : NineSm 10000 l) {u : Int} (hh : hoursV (phP l.x) (phQ l.x) = some u) :
    ∀ w, TwIn w → Calls Tryz.prog 39 #[.agg #[.int .i64 (l.x.a - l.x.b), .int .i64 (l.x.c - l.x.b)]] w fun e w' => e = .returned (.tuple #[.int .i64 u, .int .i64 0]) ∧ Below w.heap.size w w' := fun w hT => by
  have q := HoursOf_any (l.x.a - l.x.b) (l.x.c - l.x.b) (ph_small (small_ph h).1 (small_ph h).2) w hT
  unfold phP phQ at hh
  rw [hh, hoursE_of hh] at q
  exact q
theorem seq_of {l : L3} (h : NineSm 10000 l) {u : Int} (hh : hoursV (phP l.x) (phQ l.x) = some u) {p : V3} (hs : seqV l = seqP p) :
    ∀ w, Calls Tryz.prog 37 #[.agg #[.int .i64 l.x.a, .int .i64 l.x.b, .int .i64 l.x.c, .int .i64 l.y.a, .int .i64 l.y.b, .int .i64 l.y.c, .int .i64 l.z.a, .int .i64 l.z.b, .int .i64 l.z.c]] w fun e w' => e = .returned (.tuple #[.int .i64 (seqP p), .int .i64 0]) ∧ Below w.heap.size w w' := fun w => by
  have hz : phB (l.x.a - l.x.b) (l.x.c - l.x.b) 0 0 = false := by
    cases hb : phB (l.x.a - l.x.b) (l.x.c - l.x.b) 0 0
    · rfl
    · have := (phB_iff _ _ _ _).1 hb
      unfold phP phQ at hh
      injection this with i1 i2
      rw [i1, i2] at hh
      cases hh
  have q := SequenceOf_ok _ _ _ _ _ _ _ _ _ (nineSmE h) hz w
  rw [show seqV (⟨⟨l.x.a, l.x.b, l.x.c⟩, ⟨l.y.a, l.y.b, l.y.c⟩, ⟨l.z.a, l.z.b, l.z.c⟩⟩ : L3) = seqP p from hs] at q
  rcases seqP_one p with e | e
  · rw [e] at q ⊢; exact q
  · rw [e] at q ⊢; exact q

/-- What a renamed side is worth: contracts, bundled. -/
structure SideC (k t s : Int) (r : Bool) (p : V3) (L M : L3) : Prop where
  lines : ∀ w, Calls Tryz.prog 36 #[.agg #[.int .i64 k, .int .i64 t, .int .i64 s, .bool r]] w fun e w' => e = .returned (.agg #[.int .i64 L.x.a, .int .i64 L.x.b, .int .i64 L.x.c, .int .i64 L.y.a, .int .i64 L.y.b, .int .i64 L.y.c, .int .i64 L.z.a, .int .i64 L.z.b, .int .i64 L.z.c]) ∧ Below w.heap.size w w'
  ren : ∀ w, Calls Tryz.prog 35 #[.agg #[.int .i64 L.x.a, .int .i64 L.x.b, .int .i64 L.x.c, .int .i64 L.y.a, .int .i64 L.y.b, .int .i64 L.y.c, .int .i64 L.z.a, .int .i64 L.z.b, .int .i64 L.z.c], .agg #[.int .i64 p.a, .int .i64 p.b, .int .i64 p.c]] w fun e w' => e = .returned (.tuple #[.agg #[.int .i64 M.x.a, .int .i64 M.x.b, .int .i64 M.x.c, .int .i64 M.y.a, .int .i64 M.y.b, .int .i64 M.y.c, .int .i64 M.z.a, .int .i64 M.z.b, .int .i64 M.z.c], .int .i64 0]) ∧ Below w.heap.size w w'
  seq : ∀ w, Calls Tryz.prog 37 #[.agg #[.int .i64 M.x.a, .int .i64 M.x.b, .int .i64 M.x.c, .int .i64 M.y.a, .int .i64 M.y.b, .int .i64 M.y.c, .int .i64 M.z.a, .int .i64 M.z.b, .int .i64 M.z.c]] w fun e w' => e = .returned (.tuple #[.int .i64 (seqP p), .int .i64 0]) ∧ Below w.heap.size w w'
  phas : ∀ w, Calls Tryz.prog 38 #[.agg #[.int .i64 M.x.a, .int .i64 M.x.b, .int .i64 M.x.c, .int .i64 M.y.a, .int .i64 M.y.b, .int .i64 M.y.c, .int .i64 M.z.a, .int .i64 M.z.b, .int .i64 M.z.c]] w fun e w' => e = .returned (.tuple #[.agg #[.int .i64 (M.x.a - M.x.b), .int .i64 (M.x.c - M.x.b)], .int .i64 0]) ∧ Below w.heap.size w w'
  hours : ∀ w, TwIn w → Calls Tryz.prog 39 #[.agg #[.int .i64 (M.x.a - M.x.b), .int .i64 (M.x.c - M.x.b)]] w fun e w' => e = .returned (.tuple #[.int .i64 ((whV k s r + addP p) % 12), .int .i64 0]) ∧ Below w.heap.size w w'
theorem side_of {k t s : Int} {r : Bool} (hu : (Wind.mk k t s r).ok) {p : V3} (hp : isPerm p = true) : ∃ L M, SideC k t s r p L M := by
  obtain ⟨s1, s2, s3, s4, s5, s6, s7, s8, s9⟩ := linesV_sm hu
  have up : ∀ {x : Int}, Sm 4000 x → Sm 10000 x := fun h => by unfold Sm at *; omega
  have hN : NineSm 10000 (linesV ⟨k, t, s, r⟩) := ⟨⟨up s1, up s2, up s3⟩, ⟨up s4, up s5, up s6⟩, ⟨up s7, up s8, up s9⟩⟩
  have hA := ren_sm hN hp
  have hh := ren_hours hu hp
  exact ⟨linesV ⟨k, t, s, r⟩, renV (linesV ⟨k, t, s, r⟩) p, fun w => refLines_any k t s r hu _ rfl w, fun w => Renamed_ok _ _ _ _ _ _ _ _ _ p.a p.b p.c hp (nineSmE hN) _ rfl w, seq_of hA hh (ren_seq hu hp), fun w => PhasorOf_ok _ _ _ _ _ _ _ _ _ (nineSmE hA) w, hours_of hA hh⟩

theorem within_of {x : Int} (h : 0 ≤ x ∧ x ≤ 11) (w : World) : Calls Tryz.prog 33 #[.int .i64 x, .int .i64 0, .int .i64 11] w fun e w' => e = .returned (.bool true) ∧ w = w' := by
  have q := refWithin_any x 0 11 w
  rw [show withinB x 0 11 = true by simp [withinB]; omega] at q
  exact q
theorem id_of {a b : Int} (h : a ≠ b) : (a == b) = false := by simpa using h

set_option maxHeartbeats 8000000 in
set_option maxRecDepth 100000 in
theorem matched_walk (k t s : Int) (r : Bool) (k2 t2 s2 : Int) (r2 : Bool) (n : Int) (l u o : Int) (z : Bool) (l2 u2 o2 : Int) (z2 : Bool) (m p : Int) (w : World) (hT : TwIn w) (hP : PatIn w) : Calls Tryz.prog 6 #[.agg #[.int .i64 k, .int .i64 t, .int .i64 s, .bool r, .int .i64 k2, .int .i64 t2, .int .i64 s2, .bool r2, .int .i64 n, .int .i64 l, .int .i64 u, .int .i64 o, .bool z, .int .i64 l2, .int .i64 u2, .int .i64 o2, .bool z2, .int .i64 m], .int .i64 p] w fun e w' => e = .returned (.bool true) ∧ Below w.heap.size w w' := by
  have hu := refUnitErr_any k t s r k2 t2 s2 r2 n
  have hv := refUnitErr_any l u o z l2 u2 o2 z2 m
  have hp := refPercentErr_any p
  by_cases e1 : unitE k t s k2 t2 s2 n = 0
  · rw [e1] at hu
    by_cases e2 : unitE l u o l2 u2 o2 m = 0
    · rw [e2] at hv
      cases e3 : withinB p 0 100
      · rw [e3] at hp
        exact mat_3 k t s r k2 t2 s2 r2 n l u o z l2 u2 o2 z2 m p w hT hP hu hv hp
      · rw [e3] at hp
        obtain ⟨u1, u2', _, _⟩ := unitE_ok r r2 e1
        obtain ⟨u3, u4, _, _⟩ := unitE_ok z z2 e2
        have hn := refIsNear_any k t s r k2 t2 s2 r2 n l u o z l2 u2 o2 z2 m p u1 u2' u3 u4 (by simpa [withinB] using e3)
        have hmf := MatchFor_ok k t s r k2 t2 s2 r2 n l u o z l2 u2 o2 z2 m p e1 e2 e3
        have hca := ClockOf_ok k t s r k2 t2 s2 r2 n e1
        have hcb := ClockOf_ok l u o z l2 u2 o2 z2 m e2
        generalize closeV (ratN (sqW k t) (sqW k2 t2)) (ratD (sqW k t) (sqW k2 t2)) (ratN (sqW l u) (sqW l2 u2)) (ratD (sqW l u) (sqW l2 u2)) p = X at hn hmf
        cases X
        · exact mat_4 k t s r k2 t2 s2 r2 n l u o z l2 u2 o2 z2 m p w hT hP hu hv hp hn
        · have ha : 0 ≤ ((whV k s r - whV k2 s2 r2) % 12) ∧ ((whV k s r - whV k2 s2 r2) % 12) ≤ 11 := by omega
          have hb : 0 ≤ ((whV l o z - whV l2 o2 z2) % 12) ∧ ((whV l o z - whV l2 o2 z2) % 12) ≤ 11 := by omega
          have hf := match_facts ha hb
          have hmv : matchR true ((whV k s r - whV k2 s2 r2) % 12) ((whV l o z - whV l2 o2 z2) % 12) = matchV ((whV k s r - whV k2 s2 r2) % 12) ((whV l o z - whV l2 o2 z2) % 12) := rfl
          rw [hmv] at hmf
          have hnew : ∀ x y : V3, seqP x = seqP y → newV ((whV l o z - whV l2 o2 z2) % 12) x y = (seqP x * ((whV l o z + addP x) % 12 - (whV l2 o2 z2 + addP y) % 12)) % 12 := fun x y h => (new_clock h).symm
          generalize ((whV k s r - whV k2 s2 r2) % 12) = a at *
          generalize ((whV l o z - whV l2 o2 z2) % 12) = b at *
          have tm1 : a.tmod 2 = a % 2 := Int.tmod_eq_emod_of_nonneg ha.1
          have tm2 : b.tmod 2 = b % 2 := Int.tmod_eq_emod_of_nonneg hb.1
          have tm3 : a.tmod 4 = a % 4 := Int.tmod_eq_emod_of_nonneg ha.1
          have tm4 : b.tmod 4 = b % 4 := Int.tmod_eq_emod_of_nonneg hb.1
          have hwa := within_of ha
          have hwb := within_of hb
          rcases hx : matchV a b with _ | ⟨⟨m1, m2, m3⟩, ⟨m4, m5, m6⟩⟩
          · rw [hx] at hf hmf
            simp only [matchOkV, possibleV, Bool.not_eq_true', Bool.or_eq_false_iff, Bool.and_eq_false_iff] at hf
            by_cases a1 : a % 2 = 1
            · have b1 : ¬ b % 2 = 1 := by simp at hf; omega
              exact mat_5 k t s r k2 t2 s2 r2 n l u o z l2 u2 o2 z2 m p a b w hT hP hu hv hp hn hca hcb hwa hwb hmf (by rw [tm1]; simpa using a1) (by rw [tm2]; simpa using b1) (by rw [tm1]; simp; omega)
            · by_cases b1 : b % 2 = 1
              · exact mat_6 k t s r k2 t2 s2 r2 n l u o z l2 u2 o2 z2 m p a b w hT hP hu hv hp hn hca hcb hwa hwb hmf (by rw [tm1]; simpa using a1) (by rw [tm1]; simp; omega) (by rw [tm2]; simp; omega)
              · have c4 : ¬ a % 4 = b % 4 := by simp at hf; omega
                exact mat_7 k t s r k2 t2 s2 r2 n l u o z l2 u2 o2 z2 m p a b w hT hP hu hv hp hn hca hcb hwa hwb hmf (by rw [tm1]; simpa using a1) (by rw [tm1]; simp; omega) (by rw [tm2]; simp; omega) (by rw [tm3, tm4]; simpa using c4)
          · rw [hx] at hf hmf
            simp only [matchOkV, Bool.and_eq_true] at hf
            obtain ⟨⟨⟨⟨⟨f1, f2⟩, f3⟩, f4⟩, f5⟩, f6⟩ := hf
            have f5' : seqP ⟨m1, m2, m3⟩ = seqP ⟨m4, m5, m6⟩ := by simpa using f5
            have f6' : newV b ⟨m1, m2, m3⟩ ⟨m4, m5, m6⟩ = a := by simpa using f6
            rw [hnew _ _ f5'] at f6'
            obtain ⟨L1, M1, q1, q2, q3, q4, q5⟩ := side_of u3 f2
            obtain ⟨L2, M2, r1, r2_, r3, r4, r5⟩ := side_of u4 f3
            rw [← f5'] at r3
            have hi1 := refIsPermutation_any m1 m2 m3
            have hi2 := refIsPermutation_any m4 m5 m6
            rw [f2] at hi1
            rw [f3] at hi2
            have hx0 : 0 ≤ (whV l o z + addP ⟨m1, m2, m3⟩) % 12 ∧ (whV l o z + addP ⟨m1, m2, m3⟩) % 12 ≤ 11 := by omega
            have hy0 : 0 ≤ (whV l2 o2 z2 + addP ⟨m4, m5, m6⟩) % 12 ∧ (whV l2 o2 z2 + addP ⟨m4, m5, m6⟩) % 12 ≤ 11 := by omega
            generalize (whV l o z + addP ⟨m1, m2, m3⟩) % 12 = pv at *
            generalize (whV l2 o2 z2 + addP ⟨m4, m5, m6⟩) % 12 = rv at *
            have hs := seqP_one ⟨m1, m2, m3⟩
            generalize seqP ⟨m1, m2, m3⟩ = sv at *
            have kd : IntKind.i64.wrap (pv - rv) = pv - rv := IntWalk.i64_in _ (by omega)
            have hsd : -11 ≤ sv * (pv - rv) ∧ sv * (pv - rv) ≤ 11 := by rcases hs with h | h <;> rw [h] <;> omega
            have kq : IntKind.i64.wrap (sv * (pv - rv)) = sv * (pv - rv) := IntWalk.i64_in _ (by omega)
            have hmod := refMod12_any (sv * (pv - rv)) (by unfold Sm; omega)
            rw [f6'] at hmod
            have hwp := within_of hx0
            have hwr := within_of hy0
            have hposs : (a % 2 = 1 ∧ b % 2 = 1) ∨ (a % 2 = 0 ∧ b % 2 = 0 ∧ a % 4 = b % 4) := by
              simp only [possibleV, Bool.or_eq_true, Bool.and_eq_true, beq_iff_eq] at f1
              omega
            dsimp only at q2 q3 r2_ r3
            by_cases hab : a = b
            · have hm : ((⟨m1, m2, m3⟩ : V3), (⟨m4, m5, m6⟩ : V3)) = (⟨0, 1, 2⟩, ⟨0, 1, 2⟩) := by
                rcases Bool.or_eq_true_iff.1 f4 with h | h
                · simp [hab] at h
                · simpa using h
              injection hm with i1 i2
              injection i1 with j1 j2 j3
              injection i2 with j4 j5 j6
              subst j1 j2 j3 j4 j5 j6
              have keq : (a == b) = true := by simpa using hab
              rcases hposs with ⟨a1, b1⟩ | ⟨a0, b0, c4⟩
              · rcases hs with h | h
                · exact mat_ok_0_true_p k t s r k2 t2 s2 r2 n l u o z l2 u2 o2 z2 m p a b _ _ _ _ _ _ _ _ _ _ _ _ _ _ _ _ _ _ _ _ _ _ _ _ _ _ _ _ _ _ _ _ _ _ _ _ sv _ _ _ _ pv rv _ _ w hT hP hu hv hp hn hca hcb hwa hwb hmf hi1 hi2 q1 r1 q2 r2_ q3 r3 q4 r4 q5 r5 hwp hwr hmod (by rw [tm1]; simpa using a1) (by rw [tm2]; simpa using b1) keq (by rw [h]; rfl) kd kq
                · exact mat_ok_0_true_n k t s r k2 t2 s2 r2 n l u o z l2 u2 o2 z2 m p a b _ _ _ _ _ _ _ _ _ _ _ _ _ _ _ _ _ _ _ _ _ _ _ _ _ _ _ _ _ _ _ _ _ _ _ _ sv _ _ _ _ pv rv _ _ w hT hP hu hv hp hn hca hcb hwa hwb hmf hi1 hi2 q1 r1 q2 r2_ q3 r3 q4 r4 q5 r5 hwp hwr hmod (by rw [tm1]; simpa using a1) (by rw [tm2]; simpa using b1) keq (by rw [h]; rfl) (by rw [h]; rfl) kd kq
              · rcases hs with h | h
                · exact mat_ok_1_true_p k t s r k2 t2 s2 r2 n l u o z l2 u2 o2 z2 m p a b _ _ _ _ _ _ _ _ _ _ _ _ _ _ _ _ _ _ _ _ _ _ _ _ _ _ _ _ _ _ _ _ _ _ _ _ sv _ _ _ _ pv rv _ _ w hT hP hu hv hp hn hca hcb hwa hwb hmf hi1 hi2 q1 r1 q2 r2_ q3 r3 q4 r4 q5 r5 hwp hwr hmod (by rw [tm1]; simp; omega) (by rw [tm1]; simpa using a0) (by rw [tm2]; simpa using b0) (by rw [tm3, tm4]; simpa using c4) keq (by rw [h]; rfl) kd kq
                · exact mat_ok_1_true_n k t s r k2 t2 s2 r2 n l u o z l2 u2 o2 z2 m p a b _ _ _ _ _ _ _ _ _ _ _ _ _ _ _ _ _ _ _ _ _ _ _ _ _ _ _ _ _ _ _ _ _ _ _ _ sv _ _ _ _ pv rv _ _ w hT hP hu hv hp hn hca hcb hwa hwb hmf hi1 hi2 q1 r1 q2 r2_ q3 r3 q4 r4 q5 r5 hwp hwr hmod (by rw [tm1]; simp; omega) (by rw [tm1]; simpa using a0) (by rw [tm2]; simpa using b0) (by rw [tm3, tm4]; simpa using c4) keq (by rw [h]; rfl) (by rw [h]; rfl) kd kq
            · have keq : (a == b) = false := by simpa using hab
              rcases hposs with ⟨a1, b1⟩ | ⟨a0, b0, c4⟩
              · rcases hs with h | h
                · exact mat_ok_0_false_p k t s r k2 t2 s2 r2 n l u o z l2 u2 o2 z2 m p a b m1 m2 m3 m4 m5 m6 _ _ _ _ _ _ _ _ _ _ _ _ _ _ _ _ _ _ _ _ _ _ _ _ _ _ _ _ _ _ _ _ _ _ _ _ sv _ _ _ _ pv rv _ _ w hT hP hu hv hp hn hca hcb hwa hwb hmf hi1 hi2 q1 r1 q2 r2_ q3 r3 q4 r4 q5 r5 hwp hwr hmod (by rw [tm1]; simpa using a1) (by rw [tm2]; simpa using b1) keq (by rw [h]; rfl) kd kq
                · exact mat_ok_0_false_n k t s r k2 t2 s2 r2 n l u o z l2 u2 o2 z2 m p a b m1 m2 m3 m4 m5 m6 _ _ _ _ _ _ _ _ _ _ _ _ _ _ _ _ _ _ _ _ _ _ _ _ _ _ _ _ _ _ _ _ _ _ _ _ sv _ _ _ _ pv rv _ _ w hT hP hu hv hp hn hca hcb hwa hwb hmf hi1 hi2 q1 r1 q2 r2_ q3 r3 q4 r4 q5 r5 hwp hwr hmod (by rw [tm1]; simpa using a1) (by rw [tm2]; simpa using b1) keq (by rw [h]; rfl) (by rw [h]; rfl) kd kq
              · rcases hs with h | h
                · exact mat_ok_1_false_p k t s r k2 t2 s2 r2 n l u o z l2 u2 o2 z2 m p a b m1 m2 m3 m4 m5 m6 _ _ _ _ _ _ _ _ _ _ _ _ _ _ _ _ _ _ _ _ _ _ _ _ _ _ _ _ _ _ _ _ _ _ _ _ sv _ _ _ _ pv rv _ _ w hT hP hu hv hp hn hca hcb hwa hwb hmf hi1 hi2 q1 r1 q2 r2_ q3 r3 q4 r4 q5 r5 hwp hwr hmod (by rw [tm1]; simp; omega) (by rw [tm1]; simpa using a0) (by rw [tm2]; simpa using b0) (by rw [tm3, tm4]; simpa using c4) keq (by rw [h]; rfl) kd kq
                · exact mat_ok_1_false_n k t s r k2 t2 s2 r2 n l u o z l2 u2 o2 z2 m p a b m1 m2 m3 m4 m5 m6 _ _ _ _ _ _ _ _ _ _ _ _ _ _ _ _ _ _ _ _ _ _ _ _ _ _ _ _ _ _ _ _ _ _ _ _ sv _ _ _ _ pv rv _ _ w hT hP hu hv hp hn hca hcb hwa hwb hmf hi1 hi2 q1 r1 q2 r2_ q3 r3 q4 r4 q5 r5 hwp hwr hmod (by rw [tm1]; simp; omega) (by rw [tm1]; simpa using a0) (by rw [tm2]; simpa using b0) (by rw [tm3, tm4]; simpa using c4) keq (by rw [h]; rfl) (by rw [h]; rfl) kd kq
    · have h0 : (unitE l u o l2 u2 o2 m == 0) = false := by simpa using e2
      have h1 : (unitE l u o l2 u2 o2 m != 0) = true := by simpa using e2
      exact mat_2 k t s r k2 t2 s2 r2 n l u o z l2 u2 o2 z2 m p _ w hT hP hu hv h0 h1
  · have h0 : (unitE k t s k2 t2 s2 n == 0) = false := by simpa using e1
    have h1 : (unitE k t s k2 t2 s2 n != 0) = true := by simpa using e1
    exact mat_1 k t s r k2 t2 s2 r2 n l u o z l2 u2 o2 z2 m p _ w hT hP hu h0 h1

end Go.Proofs.YtnhcamokcggnkaaGreatDoor
