/- TopGroupChained: the statement (a tied card). For every input the law returns true, and each argument reads afterwards as it read before, where the package's tables stand as its initialisers lay them. Printed by a program (gen_card.py). -/
import Derived.Test.YtpdkbhjcpddnpaaGreatDoorNa9
import Derived.Test.YtpdkbhjcpddnpaaGreatDoorNY
import Derived.Test.YtpdkbhjcpddnpaaGreatDoorNZ
import Derived.ChangeMaps
import Derived.Test.YtpdkbhjcpddnpaaGreatDoorCards
import Derived.Test.YtpdkbhjcpddnpaaGreatDoorTie
import Derived.Lay
import Derived.LaidLaws
import Derived.LaidHandle
import Derived.MakeChecks
import Derived.SevenTiedAt

section
namespace Go.Proofs.YtpdkbhjcpddnpaaGreatDoor
open Go.ChangeShapes Go.WideShapes Go.ChangeAt Go.RowKit Go.Joins

set_option maxRecDepth 100000 in
theorem topGroupChained_met (os : Os) (args : Array Value) : laidMetH Tryz.prog Rows.topGroupChainedRow.laid ((World.laidAll Tryz.prog os Rows.topGroupChainedRow.laid).forCall (fun _ _ => 0) ⟨#[], args, []⟩).memory := by
  rw [MakeChecks.laidMetH_plain _ _ _ (by kernel_rfl)]
  exact laidMet_laidAll args (by kernel_rfl) (by kernel_rfl)

set_option maxRecDepth 100000 in
theorem topGroupChained_lifted (os : Os) (started : os.Started) (H : Type) (enc : TypeId × Value → H) :
    ReturnsInHanded {} Tryz.checked os 4 .any (fun w args => (Rows.topGroupChainedSpec.pre enc Tryz.prog Tryz.f4 [] false w args ∧ laidMetH Tryz.prog Rows.topGroupChainedRow.laid w) ∧ sizedMet enc Tryz.prog Tryz.f4 (OpenSpec.ofChange Rows.topGroupChainedSpec) false w args)
      (Rows.topGroupChainedSpec.post enc Tryz.prog Tryz.f4 false true false false) := by
  refine returnsIn_and_shaped (C := Tryz.checked) (X := fun w _ => laidMetH Tryz.prog Rows.topGroupChainedRow.laid w) (fun _ _ _ hh h => h.of_heap hh) own_knob started (by kernel_rfl) Tryz.func4
    (ChangeSpec.witness_shaped (enc := enc) (C := Tryz.checked) (os := os) (X := fun w _ => laidMetH Tryz.prog Rows.topGroupChainedRow.laid w) false (World.laidAll Tryz.prog os Rows.topGroupChainedRow.laid) #[.agg #[.int .i64 0, .int .i64 0, .int .i64 0, .bool false], .agg #[.int .i64 0, .int .i64 0, .int .i64 0, .bool false], .agg #[.int .i64 0, .int .i64 0, .int .i64 0, .bool false]] 8 (World.laidAll_os _ _ _) (World.shaped_of_ZipB (by kernel_rfl) (by kernel_rfl)) (by kernel_rfl) (by kernel_rfl) (by kernel_rfl) (topGroupChained_met os _)) ?_
  intro W base args ds gs before hval0 hW _ _ hL hSO _
  have hval : ∀ (j : Nat) t v, Tryz.f4.params[j]? = some t → args[j]? = some v → Value.okWide Tryz.prog W .any base t v := hval0
  have hW' := hW
  obtain ⟨p, q, hA0, hV, rfl, hfz, hnd⟩ := hW
  have hA : DataW.TrodAll enc Tryz.prog W 0 (fun _ => true) true Tryz.f4.params.toList args.toList ds p := hA0
  rw [Tryz.params4] at hA hval
  obtain ⟨v0, vs0, d0, ds0, p0, q0, hargs, rfl, rfl, h0, r0⟩ := trodAll_cons hA
  obtain ⟨v1, vs1, d1, ds1, p1, q1, rfl, rfl, rfl, h1, r1⟩ := trodAll_cons r0
  obtain ⟨v2, vs2, d2, ds2, p2, q2, rfl, rfl, rfl, h2, r2⟩ := trodAll_cons r1
  obtain ⟨rfl, rfl, rfl⟩ := trodAll_nil r2
  obtain rfl : args = #[v0, v1, v2] := by cases args; simp_all
  obtain ⟨axk, axt, axs, axr, rfl, _, _, _⟩ := open_wind (hval 0 _ v0 rfl rfl) h0
  obtain ⟨bxk, bxt, bxs, bxr, rfl, _, _, _⟩ := open_wind (hval 1 _ v1 rfl rfl) h1
  obtain ⟨cxk, cxt, cxs, cxr, rfl, _, _, _⟩ := open_wind (hval 2 _ v2 rfl rfl) h2
  rw [MakeChecks.laidMetH_plain _ _ _ (by kernel_rfl)] at hL
  have hT := tw_reads (Lib.laidMet.reads hL (n := "buchholz/group.twelfths") (d := Rows.laid_buchholz_group_twelfths) (by simp [Rows.topGroupChainedRow]))
  have hP := pat_reads (Lib.laidMet.reads hL (n := "buchholz/group.patterns") (d := Rows.laid_buchholz_group_patterns) (by simp [Rows.topGroupChainedRow]))
  have hTab : Lib.TabIs Tryz.prog W "internal/strconv.uint64pow10" .u64 Lib.pow10Tab := tab_reads (Lib.laidMet.reads hL (n := "internal/strconv.uint64pow10") (d := Rows.laid_internal_strconv_uint64pow10) (by simp [Rows.topGroupChainedRow])) (g := 6) (t := 247) (by kernel_rfl) (by kernel_rfl) Tryz.underlying247 Tryz.underlying169 (by kernel_rfl) (by kernel_rfl)
  have hE1 := err_reads (Lib.laidMet.reads hL (n := "strconv.ErrSyntax") (d := Rows.laid_strconv_ErrSyntax) (by simp [Rows.topGroupChainedRow])) (g := 4) (T := 188) (by kernel_rfl) (by kernel_rfl) Tryz.underlying188
  have hE2 := err_reads (Lib.laidMet.reads hL (n := "strconv.ErrRange") (d := Rows.laid_strconv_ErrRange) (by simp [Rows.topGroupChainedRow])) (g := 5) (T := 188) (by kernel_rfl) (by kernel_rfl) Tryz.underlying188
  have hM : ∃ m : Int, W.cell? ⟨3, 0, none⟩ = some (.int .i64 m) := cell_of_shapedOpen_int (zero := #[.int .i64 0]) (t := 3) hSO (of_decide_eq_true (by kernel_rfl)) (by kernel_rfl) rfl (by kernel_rfl) (by kernel_rfl) Tryz.underlying3
  have hS : StrIn W := ⟨hTab, hM, hE1, hE2⟩
  clear hA0 hval0 hval hA hL h0 r0 h1 r1 h2 r2
  refine (chained_any ⟨axk, axt, axs, axr⟩ ⟨bxk, bxt, bxs, bxr⟩ ⟨cxk, cxt, cxs, cxr⟩ W hT hP hS).mono fun e W' ⟨he, hb⟩ => ?_
  subst he
  exact law_end laid_out (fun t ht => (by decide +kernel : ∀ t ∈ Tryz.f4.params.toList, Tryz.prog.readableRec t = true ∧ t < Tryz.prog.types.size) t ht) rfl Tryz.underlying4 rfl rfl hW' hb

theorem topGroupChained_said : Rows.TopGroupChainedSaid :=
  OpenClaim.holds_of_wide 4 Tryz.f4 rfl rfl rfl rfl rfl rfl rfl ⟨rfl, rfl, rfl, rfl, rfl⟩ rfl rfl rfl rfl rfl (by kernel_rfl) Tryz.func4 (by kernel_rfl)
    (of_decide_eq_true (by kernel_rfl)) (by unfold Func.isWrapper; first | (rw [if_pos (by decide +kernel)]; kernel_rfl) | (rw [if_neg (by decide +kernel)]; exact ⟨rfl, rfl⟩))
    (fun os started H enc _ => topGroupChained_lifted os started H enc)

/-- No parameter wants a stand-in; the program's own looks are off. -/
theorem topGroupChained_plain (f : FuncId) (fn : Func) (hf : Tryz.pinned.checked.prog.funcNamed "buchholz/buchholztop.TopGroupChained" = some f) (hfn : Tryz.pinned.checked.prog.funcs[f]? = some fn) :
    true = Tryz.pinned.checked.prog.looks [] ∧ ∀ (j : Nat) t, fn.params[j]? = some t → Tryz.pinned.checked.prog.wantsStandIn t = false := by
  obtain rfl : f = 4 := Option.some.inj ((show Tryz.prog.funcNamed "buchholz/buchholztop.TopGroupChained" = some 4 by kernel_rfl).symm.trans hf) |>.symm
  obtain rfl : fn = Tryz.f4 := (Option.some.inj (Tryz.func4.symm.trans hfn)).symm
  refine ⟨by kernel_rfl, fun j t ht => ?_⟩
  have hm : t ∈ Tryz.f4.params.toList := by simpa using Array.mem_of_getElem? ht
  exact (by decide +kernel : ∀ t ∈ Tryz.f4.params.toList, Tryz.prog.wantsStandIn t = false) t hm

/-- THE CARD. -/
theorem topGroupChained_holds : Rows.TopGroupChainedCardSaid :=
  Claim7.holds_tied_plain_at .later [] _ _ _ _ topGroupChained_said (fun _ h => by cases h) (by kernel_rfl) (fun _ h => by cases h) topGroupChained_row_tie rfl ⟨rfl, rfl⟩ (by kernel_rfl) rfl topGroupChained_plain (by kernel_rfl)
#print axioms topGroupChained_holds

end Go.Proofs.YtpdkbhjcpddnpaaGreatDoor
end
