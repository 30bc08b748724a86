/- WorksForRates: the statement. For every input the law returns true, and each argument reads afterwards as it read before. No condition. -/
import Derived.Test.YtlgioldmjohhlaaZPForRates
import Derived.Test.YtlgioldmjohhlaaZMOpen
import Derived.Test.YtlgioldmjohhlaaZQSlices
namespace Go.Proofs.Ytlgioldmjohhlaa
open Go.ChangeShapes Go.WideShapes Go.ChangeAt Go.RowKit Go.Joins Go.Deep

theorem rates_walk (B : Nat) (lo hi fl wlo whi at_ : Int) (A : Option Addr) (c : Nat) (rs : List Int) (w : World) (hr : IntsIn B w A rs) (hB : B ≤ w.heap.size) (hm : rs.length ≤ maxLen) :
    Calls Try.prog 8 #[.agg #[.int .i64 lo, .int .i64 hi, .int .i64 fl], .agg #[.int .i64 wlo, .int .i64 whi], .agg #[.int .i64 at_, .slice A rs.length c]] w fun e w' => e = .returned (.bool true) ∧ Below w.heap.size w w' := by
  by_cases hO : ovenE lo hi fl = 0
  · by_cases hW : rangeErrV waterB wlo whi = 0
    · by_cases h60 : rs.length ≤ 60
      · exact rates_go B lo hi fl wlo whi at_ A c rs w hr hB hO hW h60
      · exact rates_skip B lo hi fl wlo whi at_ A c rs w hr hB hm (.inr (.inr ⟨hO, hW, by omega⟩))
    · exact rates_skip B lo hi fl wlo whi at_ A c rs w hr hB hm (.inr (.inl ⟨hO, hW⟩))
  · exact rates_skip B lo hi fl wlo whi at_ A c rs w hr hB hm (.inl hO)

theorem cells_ww : Try.prog.cellsOf 80 = 2 := by kernel_rfl

section
variable {H : Type} {enc : TypeId × Value → H} {P : Program} {w : World} {base b0 : Nat} {spare : Nat → Bool} {held : Bool} {r : Reach}
theorem open_int_slice {t e s : TypeId} {f0 f1 : Field} {v : Value} {d : DataW H} {p : List MemPlace} (hs : P.underlying t = some (.struct #[f0, f1])) (hone : oneCellFields P #[f0, f1] = true) (hC : P.cellsOf t = 2) (h0 : f0.type = e) (h1 : f1.type = s)
    (he : P.underlying e = some (.int .i64)) (hsl : P.underlying s = some (.slice e)) (hce : P.cellsOf e = 1) (hv : Value.okWide P w r b0 t v) (h : DataW.Trod enc P w base spare held t v d p) :
    ∃ (a : Int) (A : Option Addr) (c : Nat) (xs : List Int), v = .agg #[.int .i64 a, .slice A xs.length c] ∧ IntsIn w.heap.size w A xs ∧ xs.length ≤ maxLen := by
  obtain ⟨v0, v1, y0, y1, n, rfl, _, _, g0, g1⟩ := open_agg2 hs hone hC hv h
  rw [h0] at g0
  rw [h1] at g1
  obtain ⟨a, e0, _, _⟩ := DataW.trod_int he g0
  obtain ⟨A, c, xs, e1, hi, hl, hm, _⟩ := open_slice_ints hsl he hce g1
  simp only [List.cons.injEq, and_true] at e0 e1
  subst e0 e1
  exact ⟨a, A, c, xs, rfl, hi, by omega⟩
end

set_option maxRecDepth 100000 in
theorem rates_lifted (os : Os) (started : os.Started) (H : Type) (enc : TypeId × Value → H) :
    ReturnsInHanded {} Try.checked os 8 .any (Rows.worksForRatesSpec.pre6 enc Try.prog Try.f8 Rows.worksForRatesRow.domain false) (Rows.worksForRatesSpec.post enc Try.prog Try.f8 false true false false) := by
  refine returnsInHanded_of_change (C := Try.checked) own_knob started (by kernel_rfl) Try.func8
    (ChangeSpec.witness6 (enc := enc) (C := Try.checked) false ⟨#[], #[.agg #[.int .i64 0, .int .i64 0, .int .i64 0], .agg #[.int .i64 0, .int .i64 0], .agg #[.int .i64 0, .slice none 0 0]], []⟩ 8 (by kernel_rfl) (by kernel_rfl) (by kernel_rfl) (by kernel_rfl)) ?_
  intro W base args ds gs before hval0 hW _ _
  have hval : ∀ (j : Nat) t v, Try.f8.params[j]? = some t → args[j]? = some v → Value.okWide Try.prog W .any base t v := hval0
  have hW' := hW
  obtain ⟨p, q, hA0, hV, rfl, hfz, hnd⟩ := hW
  have hA : DataW.TrodAll enc Try.prog W 0 (fun _ => true) true Try.f8.params.toList args.toList ds p := hA0
  rw [Try.params8] at hA hval
  obtain ⟨v0, vs0, d0, ds0, p0, q0, hargs, rfl, rfl, h0, r0⟩ := trodAll_cons hA
  obtain ⟨v1, vs1, d1, ds1, p1, q1, rfl, rfl, rfl, h1, r1⟩ := trodAll_cons r0
  obtain ⟨v2, vs2, d2, ds2, p2, q2, rfl, rfl, rfl, h2, r2⟩ := trodAll_cons r1
  obtain ⟨rfl, rfl, rfl⟩ := trodAll_nil r2
  obtain rfl : args = #[v0, v1, v2] := by cases args; simp_all
  obtain ⟨lo, hi, fl, rfl, _, _, _⟩ := open_oven (hval 0 _ v0 rfl rfl) h0
  obtain ⟨wlo, whi, rfl, _, _⟩ := open_range (hval 1 _ v1 rfl rfl) h1
  obtain ⟨at_, A, c, rs, rfl, hi_, hm⟩ := open_int_slice Try.underlying80 (by kernel_rfl) cells_ww rfl rfl Try.underlying3 Try.underlying28 cells_int (hval 2 _ v2 rfl rfl) h2
  clear hA0 hval0 hval hA h0 h1 h2 r0 r1 r2
  refine (rates_walk W.heap.size lo hi fl wlo whi at_ A c rs W hi_ (Nat.le_refl _) hm).mono fun e W' ⟨he, hb⟩ => ?_
  subst he
  exact law_end laid_out (fun t ht => (by decide +kernel : ∀ t ∈ Try.f8.params.toList, Try.prog.readableRec t = true ∧ t < Try.prog.types.size) t ht) rfl Try.underlying4 rfl rfl hW' hb

theorem rates_over : Rows.worksForRatesRow.holds Try.pinned (OpenSpec.ofChange Rows.worksForRatesSpec) :=
  OpenClaim.holds_of_wide 8 Try.f8 rfl rfl rfl rfl rfl rfl rfl ⟨rfl, rfl, rfl, rfl, rfl⟩ rfl rfl rfl rfl rfl (by kernel_rfl) Try.func8 (by kernel_rfl)
    (of_decide_eq_true (by kernel_rfl)) (by unfold Func.isWrapper; first | (rw [if_pos (by decide +kernel)]; kernel_rfl) | (rw [if_neg (by decide +kernel)]; exact ⟨rfl, rfl⟩))
    (fun os started H enc _ => rates_lifted os started H enc)

theorem rates_holds : Rows.WorksForRatesSaid := rates_over
#print axioms rates_holds

end Go.Proofs.Ytlgioldmjohhlaa
