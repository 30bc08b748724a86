/- The law on windings that give a clock number, whole: it returns true. -/
import Derived.Test.YtnhcamokcggnkaaDoorHFLow
namespace Go.Proofs.YtnhcamokcggnkaaDoor
open Go.RowKit

theorem low_walk (k t s : Int) (r : Bool) (kind n : Int) (w : World) (hT : TwIn w) (hP : PatIn w) :
    Calls Tryd.prog 3 #[.agg #[.int .i64 k, .int .i64 t, .int .i64 s, .bool r], .int .i64 kind, .int .i64 n] w fun e w' => e = .returned (.bool true) ∧ Below w.heap.size w w' := by
  by_cases he : windE k t s = 0
  · by_cases hr : refLowErr kind n = 0
    · have hu := windE_ok r he
      have hb : (0 ≤ kind ∧ kind ≤ 2) ∧ (0 ≤ n ∧ n ≤ 11) := by
        rcases refLowErr_cases kind n with ⟨_, h⟩ | ⟨_, _, h⟩ | ⟨h1, h2, _⟩
        · omega
        · omega
        · simpa [withinB] using And.intro h1 h2
      obtain ⟨hk, hn⟩ := hb
      have f := low_facts hu hk hn
      dsimp only at f
      cases hl : lowV (whV k s r) kind n with
      | none =>
        rw [hl] at f
        have hm : ((k == 0) == (kind == 0)) = (n % 2 == 1) := by simpa [lowOkV] using f
        exact low_c k t s r kind n he hr (n % 2 == 1) hl hm (by rw [Int.tmod_eq_emod_of_nonneg hn.1]) w hT hP
      | some x =>
        obtain ⟨sh, rv⟩ := x
        rw [hl] at f
        simp only [lowOkV, Bool.and_eq_true, Bool.or_eq_true, beq_iff_eq] at f
        obtain ⟨⟨⟨⟨f1, f2⟩, f3⟩, f4⟩, f5⟩ := f
        have ht := hu.2.2
        dsimp only at ht
        have w1 : ∀ v, 0 ≤ v → v ≤ 2 → windE kind t v = 0 := fun v h1 h2 => windE_of (r := false) ⟨hk.1, hk.2, ht.1, ht.2.1, h1, h2⟩
        have u1 : ∀ v, 0 ≤ v → v ≤ 2 → unitE k t s kind t v 0 = 0 := fun v h1 h2 => by
          unfold unitE
          rw [he, w1 v h1 h2]
          rfl
        refine low_d k t s r kind n he hr (n % 2 == 0) sh rv hl f3 (by rw [Int.tmod_eq_emod_of_nonneg hn.1]) ((n + 4) % 12) ((n + 6) % 12) ((sh + 1) % 3)
          (IntWalk.i64_in _ (by omega)) (Int.tmod_eq_emod_of_nonneg (by omega)) (IntWalk.i64_in _ (by omega)) (Int.tmod_eq_emod_of_nonneg (by omega)) (IntWalk.i64_in _ (by omega)) (Int.tmod_eq_emod_of_nonneg (by omega))
          (u1 _ (by omega) (by omega)) (u1 _ (by omega) (by omega)) f2 f4 f5 w hT hP
    · have hc : refLowErr kind n = 15 ∨ refLowErr kind n = 2 := by
        rcases refLowErr_cases kind n with ⟨_, h⟩ | ⟨_, _, h⟩ | ⟨_, _, h⟩
        · exact .inl h
        · exact .inr h
        · exact absurd h hr
      exact low_b k t s r kind n _ he rfl (by rcases hc with h | h <;> rw [h] <;> rfl) (by rcases hc with h | h <;> rw [h] <;> rfl) w hT hP
  · have hc : windE k t s = 15 ∨ windE k t s = 2 := by
      rcases windE_cases k t s with ⟨_, h⟩ | ⟨_, _, h⟩ | ⟨_, _, _, h⟩ | ⟨_, _, _, h⟩
      · exact .inl h
      · exact .inr h
      · exact .inr h
      · exact absurd h he
    exact low_a k t s r kind n _ rfl (by rcases hc with h | h <;> rw [h] <;> rfl) (by rcases hc with h | h <;> rw [h] <;> rfl) w hT hP

end Go.Proofs.YtnhcamokcggnkaaDoor
