/- WorksBothWays: the statement. For every input the law returns true, and each argument reads afterwards as it read before. No condition. -/
import Derived.Test.YtlgioldmjohhlaaTKBoth
import Derived.Test.YtlgioldmjohhlaaTBOpen
namespace Go.Proofs.Ytlgioldmjohhlaa
open Go.ChangeShapes Go.WideShapes Go.ChangeAt Go.RowKit Go.Joins Go.Deep

theorem both_walk (A : Option Addr) (c : Nat) (xs : List Lot) (w : World) (hr : LotsIn w.heap.size w A xs) (hcap : xs.length ≤ c) :
    Calls Try.prog 10 #[.slice A xs.length c] w fun e w' => e = .returned (.bool true) ∧ Below w.heap.size w w' := by
  cases h : smallB xs with
  | false => exact both_skip A c xs w hr hcap (.inl h)
  | true =>
    by_cases h0 : (openLotsV xs).2 = 0
    · exact both_go A c xs w hr hcap h h0
    · exact both_skip A c xs w hr hcap (.inr ⟨h, h0⟩)

set_option maxRecDepth 100000 in
theorem both_lifted (os : Os) (started : os.Started) (H : Type) (enc : TypeId × Value → H) :
    ReturnsInHanded {} Try.checked os 10 .any (Rows.worksBothWaysSpec.pre6 enc Try.prog Try.f10 Rows.worksBothWaysRow.domain false) (Rows.worksBothWaysSpec.post enc Try.prog Try.f10 false true false false) := by
  refine returnsInHanded_of_change (C := Try.checked) own_knob started (by kernel_rfl) Try.func10
    (ChangeSpec.witness6 (enc := enc) (C := Try.checked) false ⟨#[], #[.slice none 0 0], []⟩ 8 (by kernel_rfl) (by kernel_rfl) (by kernel_rfl) (by kernel_rfl)) ?_
  intro W base args ds gs before hval0 hW _ _
  have hval : ∀ (j : Nat) t v, Try.f10.params[j]? = some t → args[j]? = some v → Value.okWide Try.prog W .any base t v := hval0
  have hW' := hW
  obtain ⟨p, q, hA0, hV, rfl, hfz, hnd⟩ := hW
  have hA : DataW.TrodAll enc Try.prog W 0 (fun _ => true) true Try.f10.params.toList args.toList ds p := hA0
  rw [Try.params10] at hA hval
  obtain ⟨v0, vs0, d0, ds0, p0, q0, hargs, rfl, rfl, h0, r0⟩ := trodAll_cons hA
  obtain ⟨rfl, rfl, rfl⟩ := trodAll_nil r0
  obtain rfl : args = #[v0] := by cases args; simp_all
  obtain ⟨A, c, xs, rfl, hi_, hcap, hm⟩ := open_lots_arg (hval 0 _ v0 rfl rfl) h0
  clear hA0 hval0 hval hA h0 r0
  refine (both_walk A c xs W hi_ hcap).mono fun e W' ⟨he, hb⟩ => ?_
  subst he
  exact law_end laid_out (fun t ht => (by decide +kernel : ∀ t ∈ Try.f10.params.toList, Try.prog.readableRec t = true ∧ t < Try.prog.types.size) t ht) rfl Try.underlying4 rfl rfl hW' hb

theorem both_over : Rows.worksBothWaysRow.holds Try.pinned (OpenSpec.ofChange Rows.worksBothWaysSpec) :=
  OpenClaim.holds_of_wide 10 Try.f10 rfl rfl rfl rfl rfl rfl rfl ⟨rfl, rfl, rfl, rfl, rfl⟩ rfl rfl rfl rfl rfl (by kernel_rfl) Try.func10 (by kernel_rfl)
    (of_decide_eq_true (by kernel_rfl)) (by unfold Func.isWrapper; first | (rw [if_pos (by decide +kernel)]; kernel_rfl) | (rw [if_neg (by decide +kernel)]; exact ⟨rfl, rfl⟩))
    (fun os started H enc _ => both_lifted os started H enc)

theorem both_holds : Rows.WorksBothWaysSaid := both_over
#print axioms both_holds

end Go.Proofs.Ytlgioldmjohhlaa
