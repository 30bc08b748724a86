/- WorksStacks: the statement. For every input the law returns true, and each argument reads afterwards as it read before. No condition. -/
import Derived.Test.YtlgioldmjohhlaaZXStacks
import Derived.Test.YtlgioldmjohhlaaZMOpen
import Derived.Test.YtlgioldmjohhlaaZQSlices
namespace Go.Proofs.Ytlgioldmjohhlaa
open Go.ChangeShapes Go.WideShapes Go.ChangeAt Go.RowKit Go.Joins Go.Deep

theorem stacks_walk (A : Option Addr) (c : Nat) (xs : List Int) (count overlap : Int) (w : World) (hr : IntsIn w.heap.size w A xs) (hcap : xs.length ≤ c) :
    Calls Try.prog 4 #[.slice A xs.length c, .int .i64 count, .int .i64 overlap] w fun e w' => e = .returned (.bool true) ∧ Below w.heap.size w w' := by
  by_cases hl : xs.length ≤ 10
  · by_cases h8 : count = 8
    · exact stacks_skip A c xs count overlap w (.inr ⟨hl, h8⟩)
    · by_cases h0 : stackE count overlap = 0
      · have h1 := (unless_ne (by decide)).1 h0
        simp only [Bool.and_eq_true] at h1
        have hc := h1.1
        simp only [withinB, Bool.and_eq_true, decide_eq_true_eq] at hc
        obtain ⟨n, rfl⟩ : ∃ n : Nat, count = (n : Int) := ⟨count.toNat, by omega⟩
        exact stacks_go A c xs n overlap w hr hcap hl (by omega) h0
      · exact stacks_bad A c xs count overlap w hr hcap hl h8 h0
  · exact stacks_skip A c xs count overlap w (.inl (by omega))

section
variable {H : Type} {enc : TypeId × Value → H} {P : Program} {w : World} {base b0 : Nat} {spare : Nat → Bool} {held : Bool} {r : Reach}
theorem open_ints_arg {t e : TypeId} {v : Value} {d : DataW H} {p : List MemPlace} (ht : P.underlying t = some (.slice e)) (he : P.underlying e = some (.int .i64)) (hc : P.cellsOf e = 1) (hv : Value.okWide P w r b0 t v) (h : DataW.Trod enc P w base spare held t v d p) :
    ∃ (A : Option Addr) (c : Nat) (xs : List Int), v = .slice A xs.length c ∧ IntsIn w.heap.size w A xs ∧ xs.length ≤ c ∧ xs.length ≤ maxLen := by
  obtain ⟨a, len, cap, rfl⟩ := okWide_slice ht hv
  obtain ⟨fuel, hf⟩ := h
  obtain ⟨A, c, xs, e1, hi, hl, hm, _⟩ := open_slice_ints ht he hc hf
  have e2 : Value.slice a len cap = .slice A xs.length c := by simpa [Value.cells] using e1
  exact ⟨A, c, xs, e2, hi, hl, by omega⟩
end

set_option maxRecDepth 100000 in
theorem stacks_lifted (os : Os) (started : os.Started) (H : Type) (enc : TypeId × Value → H) :
    ReturnsInHanded {} Try.checked os 4 .any (Rows.worksStacksSpec.pre6 enc Try.prog Try.f4 Rows.worksStacksRow.domain false) (Rows.worksStacksSpec.post enc Try.prog Try.f4 false true false false) := by
  refine returnsInHanded_of_change (C := Try.checked) own_knob started (by kernel_rfl) Try.func4
    (ChangeSpec.witness6 (enc := enc) (C := Try.checked) false ⟨#[], #[.slice none 0 0, .int .i64 0, .int .i64 0], []⟩ 8 (by kernel_rfl) (by kernel_rfl) (by kernel_rfl) (by kernel_rfl)) ?_
  intro W base args ds gs before hval0 hW _ _
  have hval : ∀ (j : Nat) t v, Try.f4.params[j]? = some t → args[j]? = some v → Value.okWide Try.prog W .any base t v := hval0
  have hW' := hW
  obtain ⟨p, q, hA0, hV, rfl, hfz, hnd⟩ := hW
  have hA : DataW.TrodAll enc Try.prog W 0 (fun _ => true) true Try.f4.params.toList args.toList ds p := hA0
  rw [Try.params4] at hA hval
  obtain ⟨v0, vs0, d0, ds0, p0, q0, hargs, rfl, rfl, h0, r0⟩ := trodAll_cons hA
  obtain ⟨v1, vs1, d1, ds1, p1, q1, rfl, rfl, rfl, h1, r1⟩ := trodAll_cons r0
  obtain ⟨v2, vs2, d2, ds2, p2, q2, rfl, rfl, rfl, h2, r2⟩ := trodAll_cons r1
  obtain ⟨rfl, rfl, rfl⟩ := trodAll_nil r2
  obtain rfl : args = #[v0, v1, v2] := by cases args; simp_all
  obtain ⟨A, c, xs, rfl, hi_, hcap, hm⟩ := open_ints_arg Try.underlying28 Try.underlying3 cells_int (hval 0 _ v0 rfl rfl) h0
  obtain ⟨count, rfl, rfl, rfl, _⟩ := open_int Try.underlying3 (hval 1 _ v1 rfl rfl) h1
  obtain ⟨overlap, rfl, rfl, rfl, _⟩ := open_int Try.underlying3 (hval 2 _ v2 rfl rfl) h2
  clear hA0 hval0 hval hA h0 h1 h2 r0 r1 r2
  refine (stacks_walk A c xs count overlap W hi_ hcap).mono fun e W' ⟨he, hb⟩ => ?_
  subst he
  exact law_end laid_out (fun t ht => (by decide +kernel : ∀ t ∈ Try.f4.params.toList, Try.prog.readableRec t = true ∧ t < Try.prog.types.size) t ht) rfl Try.underlying4 rfl rfl hW' hb

theorem stacks_over : Rows.worksStacksRow.holds Try.pinned (OpenSpec.ofChange Rows.worksStacksSpec) :=
  OpenClaim.holds_of_wide 4 Try.f4 rfl rfl rfl rfl rfl rfl rfl ⟨rfl, rfl, rfl, rfl, rfl⟩ rfl rfl rfl rfl rfl (by kernel_rfl) Try.func4 (by kernel_rfl)
    (of_decide_eq_true (by kernel_rfl)) (by unfold Func.isWrapper; first | (rw [if_pos (by decide +kernel)]; kernel_rfl) | (rw [if_neg (by decide +kernel)]; exact ⟨rfl, rfl⟩))
    (fun os started H enc _ => stacks_lifted os started H enc)

theorem stacks_holds : Rows.WorksStacksSaid := stacks_over
#print axioms stacks_holds

end Go.Proofs.Ytlgioldmjohhlaa
