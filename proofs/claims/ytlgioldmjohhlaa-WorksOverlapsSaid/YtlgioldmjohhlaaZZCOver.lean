/- WorksOverlaps: the statement. For every input the law returns true, and each argument reads afterwards as it read before. No condition. -/
import Derived.Test.YtlgioldmjohhlaaZZBOver
import Derived.Test.YtlgioldmjohhlaaZMOpen
import Derived.Test.YtlgioldmjohhlaaZQSlices
namespace Go.Proofs.Ytlgioldmjohhlaa
open Go.ChangeShapes Go.WideShapes Go.ChangeAt Go.RowKit Go.Joins Go.Deep Over

theorem over_walk (A : Option Addr) (c : Nat) (xs : List Int) (count overlap : Int) (w : World) (hr : IntsIn w.heap.size w A xs) (hcap : xs.length ≤ c) :
    Calls Try.prog 5 #[.slice A xs.length c, .int .i64 count, .int .i64 overlap] w fun e w' => e = .returned (.bool true) ∧ Below w.heap.size w w' := by
  by_cases hl : xs.length ≤ 8
  · cases hw1 : withinB count 1 7
    · exact over_skip A c xs count overlap w (.inr (.inl ⟨hl, hw1⟩))
    · cases hw2 : withinB overlap 0 7
      · exact over_skip A c xs count overlap w (.inr (.inr ⟨hl, hw1, hw2⟩))
      · simp only [withinB, Bool.and_eq_true, decide_eq_true_eq] at hw1 hw2
        obtain ⟨n, rfl⟩ : ∃ n : Nat, count = (n : Int) := ⟨count.toNat, by omega⟩
        have hn1 : 1 ≤ n := by omega
        have hn7 : n ≤ 7 := by omega
        have h0 : stackE n overlap = 0 := (unless_ne (by decide)).2 (by simp [withinB]; omega)
        have h1 : stackE n (overlap + 1) = 0 := (unless_ne (by decide)).2 (by simp [withinB]; omega)
        have hfor := fun W => callsIn_wide.1 (stackFor_in 1 n overlap W (Nat.le_refl _) h0 (by omega))
        have hof := fun W => callsIn_wide.1 (stacksOf_in 1 n overlap W (Nat.le_refl _) h0 (by omega))
        have hof1 := fun W => callsIn_wide.1 (stacksOf_in 1 n (overlap + 1) W (Nat.le_refl _) h1 (by omega))
        have hMN := stacks_mono n overlap hw2.1 n []
        have hN := stacksV_few overlap (show n ≤ 8 by omega) n (by omega) []
        have hL8 := stackForL_len (overlap := overlap) (show n ≤ 8 by omega)
        have hL : stackForL n overlap = (stacksV n overlap n []).headD [] := by unfold stackForL; rw [if_neg (by simp [h0])]
        have hpar : n ≤ 1 ∨ (decide ((1 : Int) < (n : Int)) = true ∧ (((stacksV n overlap n []).length : Int) % 2 != 0) = false) := by
          rcases Nat.lt_or_ge 1 n with h | h
          · refine .inr ⟨decide_eq_true (by omega), ?_⟩
            have := stacks_even n overlap h
            have e : ((stacksV n overlap n []).length : Int) % 2 = 0 := by omega
            rw [e]
            rfl
          · exact .inl h
        cases hs : stacksV n overlap n [] with
        | nil =>
          have he : stackForE n overlap = 12 := by simp [stackForE, hs, h0]
          rw [he] at hfor
          rw [hs] at hof hMN hN hpar
          rcases hpar with hp | ⟨hp, hp2⟩
          · exact over_b A c xs n overlap w hr hcap hl hn1 hn7 hw2.1 hw2.2 _ _ _ hfor hof hof1 hMN hN (decide_eq_false (by omega)) trivial rfl trivial hL8 trivial
          · exact over_d A c xs n overlap w hr hcap hl hn1 hn7 hw2.1 hw2.2 _ _ _ hfor hof hof1 hMN hN hp hp2 rfl trivial hL8 trivial
        | cons z l =>
          have he : stackForE n overlap = 0 := by simp [stackForE, hs, h0]
          have hz : stackForL n overlap = z := by rw [hL, hs]; rfl
          have hmem : z ∈ stacksV n overlap n [] := by rw [hs]; simp
          have hck := stacksV_ok n [] z hmem
          have hzl := stacksV_len n [] z hmem
          simp at hzl
          rw [he, hz] at hfor
          rw [hz] at hL8
          have hlc : ((z.length : Int) != (n : Int)) = false := by simp [hzl]
          have hpos : decide ((0 : Int) < ((stacksV n overlap n []).length : Int)) = true := decide_eq_true (by rw [hs, List.length_cons]; omega)
          rcases hpar with hp | ⟨hp, hp2⟩
          · exact over_a A c xs n overlap w hr hcap hl hn1 hn7 hw2.1 hw2.2 _ _ _ hfor hof hof1 hMN hN (decide_eq_false (by omega)) trivial hpos hlc hL8 hck
          · exact over_c A c xs n overlap w hr hcap hl hn1 hn7 hw2.1 hw2.2 _ _ _ hfor hof hof1 hMN hN hp hp2 hpos hlc hL8 hck
  · exact over_skip A c xs count overlap w (.inl (by omega))

section
variable {H : Type} {enc : TypeId × Value → H} {P : Program} {w : World} {base b0 : Nat} {spare : Nat → Bool} {held : Bool} {r : Reach}
theorem open_ints_arg' {t e : TypeId} {v : Value} {d : DataW H} {p : List MemPlace} (ht : P.underlying t = some (.slice e)) (he : P.underlying e = some (.int .i64)) (hc : P.cellsOf e = 1) (hv : Value.okWide P w r b0 t v) (h : DataW.Trod enc P w base spare held t v d p) :
    ∃ (A : Option Addr) (c : Nat) (xs : List Int), v = .slice A xs.length c ∧ IntsIn w.heap.size w A xs ∧ xs.length ≤ c ∧ xs.length ≤ maxLen := by
  obtain ⟨a, len, cap, rfl⟩ := okWide_slice ht hv
  obtain ⟨fuel, hf⟩ := h
  obtain ⟨A, c, xs, e1, hi, hl, hm, _⟩ := open_slice_ints ht he hc hf
  have e2 : Value.slice a len cap = .slice A xs.length c := by simpa [Value.cells] using e1
  exact ⟨A, c, xs, e2, hi, hl, by omega⟩
end

set_option maxRecDepth 100000 in
theorem over_lifted (os : Os) (started : os.Started) (H : Type) (enc : TypeId × Value → H) :
    ReturnsInHanded {} Try.checked os 5 .any (Rows.worksOverlapsSpec.pre6 enc Try.prog Try.f5 Rows.worksOverlapsRow.domain false) (Rows.worksOverlapsSpec.post enc Try.prog Try.f5 false true false false) := by
  refine returnsInHanded_of_change (C := Try.checked) own_knob started (by kernel_rfl) Try.func5
    (ChangeSpec.witness6 (enc := enc) (C := Try.checked) false ⟨#[], #[.slice none 0 0, .int .i64 0, .int .i64 0], []⟩ 8 (by kernel_rfl) (by kernel_rfl) (by kernel_rfl) (by kernel_rfl)) ?_
  intro W base args ds gs before hval0 hW _ _
  have hval : ∀ (j : Nat) t v, Try.f5.params[j]? = some t → args[j]? = some v → Value.okWide Try.prog W .any base t v := hval0
  have hW' := hW
  obtain ⟨p, q, hA0, hV, rfl, hfz, hnd⟩ := hW
  have hA : DataW.TrodAll enc Try.prog W 0 (fun _ => true) true Try.f5.params.toList args.toList ds p := hA0
  rw [Try.params5] at hA hval
  obtain ⟨v0, vs0, d0, ds0, p0, q0, hargs, rfl, rfl, h0, r0⟩ := trodAll_cons hA
  obtain ⟨v1, vs1, d1, ds1, p1, q1, rfl, rfl, rfl, h1, r1⟩ := trodAll_cons r0
  obtain ⟨v2, vs2, d2, ds2, p2, q2, rfl, rfl, rfl, h2, r2⟩ := trodAll_cons r1
  obtain ⟨rfl, rfl, rfl⟩ := trodAll_nil r2
  obtain rfl : args = #[v0, v1, v2] := by cases args; simp_all
  obtain ⟨A, c, xs, rfl, hi_, hcap, hm⟩ := open_ints_arg' Try.underlying28 Try.underlying3 cells_int (hval 0 _ v0 rfl rfl) h0
  obtain ⟨count, rfl, rfl, rfl, _⟩ := open_int Try.underlying3 (hval 1 _ v1 rfl rfl) h1
  obtain ⟨overlap, rfl, rfl, rfl, _⟩ := open_int Try.underlying3 (hval 2 _ v2 rfl rfl) h2
  clear hA0 hval0 hval hA h0 h1 h2 r0 r1 r2
  refine (over_walk A c xs count overlap W hi_ hcap).mono fun e W' ⟨he, hb⟩ => ?_
  subst he
  exact law_end laid_out (fun t ht => (by decide +kernel : ∀ t ∈ Try.f5.params.toList, Try.prog.readableRec t = true ∧ t < Try.prog.types.size) t ht) rfl Try.underlying4 rfl rfl hW' hb

theorem over_over : Rows.worksOverlapsRow.holds Try.pinned (OpenSpec.ofChange Rows.worksOverlapsSpec) :=
  OpenClaim.holds_of_wide 5 Try.f5 rfl rfl rfl rfl rfl rfl rfl ⟨rfl, rfl, rfl, rfl, rfl⟩ rfl rfl rfl rfl rfl (by kernel_rfl) Try.func5 (by kernel_rfl)
    (of_decide_eq_true (by kernel_rfl)) (by unfold Func.isWrapper; first | (rw [if_pos (by decide +kernel)]; kernel_rfl) | (rw [if_neg (by decide +kernel)]; exact ⟨rfl, rfl⟩))
    (fun os started H enc _ => over_lifted os started H enc)

theorem over_holds : Rows.WorksOverlapsSaid := over_over
#print axioms over_holds

end Go.Proofs.Ytlgioldmjohhlaa
