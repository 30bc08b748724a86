/- WorksLotStrings: the statement (a tied card). For every input the law returns true, and each argument reads afterwards as it read before, where the package's tables stand as its initialisers lay them. Printed by a program (gen_card.py). -/
import Derived.Test.YtbojmcopagbheaaGreatDoorYGOpen
import Derived.Test.YtbojmcopagbheaaGreatDoorKYVars
import Derived.Test.YtbojmcopagbheaaGreatDoorK0Shaped
import Derived.ChangeMaps
import Derived.Test.YtbojmcopagbheaaGreatDoorCards
import Derived.Test.YtbojmcopagbheaaGreatDoorTie
import Derived.Lay
import Derived.LaidLaws
import Derived.LaidHandle
import Derived.MakeChecks
import Derived.SevenTiedAt
namespace Go.Proofs.YtbojmcopagbheaaGreatDoor
open Go.ChangeShapes Go.WideShapes Go.ChangeAt Go.RowKit Go.Joins

set_option maxRecDepth 100000 in
theorem worksLotStrings_met (os : Os) (args : Array Value) : laidMetH Tryz.prog Rows.worksLotStringsRow.laid ((World.laidAll Tryz.prog os Rows.worksLotStringsRow.laid).forCall (fun _ _ => 0) ⟨#[], args, []⟩).memory := by
  rw [MakeChecks.laidMetH_plain _ _ _ (by kernel_rfl)]
  exact laidMet_laidAll args (by kernel_rfl) (by kernel_rfl)

set_option maxRecDepth 100000 in
theorem worksLotStrings_lifted (os : Os) (started : os.Started) (H : Type) (enc : TypeId × Value → H) :
    ReturnsInHanded {} Tryz.checked os 5 .any (fun w args => (Rows.worksLotStringsSpec.pre enc Tryz.prog Tryz.f5 [] false w args ∧ laidMetH Tryz.prog Rows.worksLotStringsRow.laid w) ∧ sizedMet enc Tryz.prog Tryz.f5 (OpenSpec.ofChange Rows.worksLotStringsSpec) false w args)
      (Rows.worksLotStringsSpec.post enc Tryz.prog Tryz.f5 false true false false) := by
  refine returnsIn_and_shaped (C := Tryz.checked) (X := fun w _ => laidMetH Tryz.prog Rows.worksLotStringsRow.laid w) (fun _ _ _ hh h => h.of_heap hh) own_knob started (by kernel_rfl) Tryz.func5
    (ChangeSpec.witness_shaped (enc := enc) (C := Tryz.checked) (os := os) (X := fun w _ => laidMetH Tryz.prog Rows.worksLotStringsRow.laid w) false (World.laidAll Tryz.prog os Rows.worksLotStringsRow.laid) #[.agg #[.string ⟨#[]⟩, .slice none 0 0, .int .i64 0, .int .i64 0, .int .i64 0, .int .i64 0], .string ⟨#[]⟩] 8 (World.laidAll_os _ _ _) (World.shaped_of_ZipB (by kernel_rfl) (by kernel_rfl)) (by kernel_rfl) (by kernel_rfl) (by kernel_rfl) (worksLotStrings_met os _)) ?_
  intro W base args ds gs before hval0 hW _ _ hL hSO _
  have hval : ∀ (j : Nat) t v, Tryz.f5.params[j]? = some t → args[j]? = some v → Value.okWide Tryz.prog W .any base t v := hval0
  have hW' := hW
  obtain ⟨p, q, hA0, hV, rfl, hfz, hnd⟩ := hW
  have hA : DataW.TrodAll enc Tryz.prog W 0 (fun _ => true) true Tryz.f5.params.toList args.toList ds p := hA0
  rw [Tryz.params5] at hA hval
  obtain ⟨v0, vs0, d0, ds0, p0, q0, hargs, rfl, rfl, h0, r0⟩ := trodAll_cons hA
  obtain ⟨v1, vs1, d1, ds1, p1, q1, rfl, rfl, rfl, h1, r1⟩ := trodAll_cons r0
  obtain ⟨rfl, rfl, rfl⟩ := trodAll_nil r1
  obtain rfl : args = #[v0, v1] := by cases args; simp_all
  obtain ⟨anm, aM, ax1, ax2, ax3, ax4, aA, ac, rfl, hi_, hcap, g1, g2, g3, g4⟩ := open_lotI (hval 0 _ v0 rfl rfl) h0
  obtain ⟨z, rfl, rfl, rfl, _⟩ := Go.ChangeMaps.open_string Tryz.underlying9 (hval 1 _ v1 rfl rfl) h1
  rw [MakeChecks.laidMetH_plain _ _ _ (by kernel_rfl)] at hL
  have hTab : Lib.TabIs Tryz.prog W "internal/strconv.uint64pow10" .u64 Lib.pow10Tab := tab_reads (Lib.laidMet.reads hL (n := "internal/strconv.uint64pow10") (d := Rows.laid_internal_strconv_uint64pow10) (by simp [Rows.worksLotStringsRow])) (g := 3) (t := 205) (by kernel_rfl) (by kernel_rfl) Tryz.underlying205 Tryz.underlying186 (by kernel_rfl) (by kernel_rfl)
  have hE1 := err_reads (Lib.laidMet.reads hL (n := "strconv.ErrSyntax") (d := Rows.laid_strconv_ErrSyntax) (by simp [Rows.worksLotStringsRow])) (g := 1) (T := 140) (by kernel_rfl) (by kernel_rfl) Tryz.underlying140
  have hE2 := err_reads (Lib.laidMet.reads hL (n := "strconv.ErrRange") (d := Rows.laid_strconv_ErrRange) (by simp [Rows.worksLotStringsRow])) (g := 2) (T := 140) (by kernel_rfl) (by kernel_rfl) Tryz.underlying140
  have hM : ∃ m : Int, W.cell? ⟨0, 0, none⟩ = some (.int .i64 m) := cell_of_shapedOpen_int (zero := #[.int .i64 0]) (t := 3) hSO (of_decide_eq_true (by kernel_rfl)) (by kernel_rfl) rfl (by kernel_rfl) (by kernel_rfl) Tryz.underlying3
  have hS : StrIn W := ⟨hTab, hM, hE1, hE2⟩
  clear hA0 hval0 hval hA hL h0 r0 h1 r1
  obtain ⟨⟨zl⟩⟩ := z
  refine (llaw_any anm aM ax1 ax2 ax3 ax4 aA ac hcap g1 g2 g3 g4 zl W hS hi_).mono fun e W' ⟨he, hb⟩ => ?_
  subst he
  exact law_end laid_out (fun t ht => (by decide +kernel : ∀ t ∈ Tryz.f5.params.toList, Tryz.prog.readableRec t = true ∧ t < Tryz.prog.types.size) t ht) rfl Tryz.underlying4 rfl rfl hW' hb

theorem worksLotStrings_said : Rows.WorksLotStringsSaid :=
  OpenClaim.holds_of_wide 5 Tryz.f5 rfl rfl rfl rfl rfl rfl rfl ⟨rfl, rfl, rfl, rfl, rfl⟩ rfl rfl rfl rfl rfl (by kernel_rfl) Tryz.func5 (by kernel_rfl)
    (of_decide_eq_true (by kernel_rfl)) (by unfold Func.isWrapper; first | (rw [if_pos (by decide +kernel)]; kernel_rfl) | (rw [if_neg (by decide +kernel)]; exact ⟨rfl, rfl⟩))
    (fun os started H enc _ => worksLotStrings_lifted os started H enc)

/-- No parameter wants a stand-in; the program's own looks are off. -/
theorem worksLotStrings_plain (f : FuncId) (fn : Func) (hf : Tryz.pinned.checked.prog.funcNamed "buchholz/buchholzlaw07.WorksLotStrings" = some f) (hfn : Tryz.pinned.checked.prog.funcs[f]? = some fn) :
    true = Tryz.pinned.checked.prog.looks [] ∧ ∀ (j : Nat) t, fn.params[j]? = some t → Tryz.pinned.checked.prog.wantsStandIn t = false := by
  obtain rfl : f = 5 := Option.some.inj ((show Tryz.prog.funcNamed "buchholz/buchholzlaw07.WorksLotStrings" = some 5 by kernel_rfl).symm.trans hf) |>.symm
  obtain rfl : fn = Tryz.f5 := (Option.some.inj (Tryz.func5.symm.trans hfn)).symm
  refine ⟨by kernel_rfl, fun j t ht => ?_⟩
  have hm : t ∈ Tryz.f5.params.toList := by simpa using Array.mem_of_getElem? ht
  exact (by decide +kernel : ∀ t ∈ Tryz.f5.params.toList, Tryz.prog.wantsStandIn t = false) t hm

/-- THE CARD. -/
theorem worksLotStrings_holds : Rows.WorksLotStringsCardSaid :=
  Claim7.holds_tied_plain_at .later [] _ _ _ _ worksLotStrings_said (fun _ h => by cases h) (by kernel_rfl) (fun _ h => by cases h) worksLotStrings_row_tie rfl ⟨rfl, rfl⟩ (by kernel_rfl) rfl worksLotStrings_plain (by kernel_rfl)
#print axioms worksLotStrings_holds

end Go.Proofs.YtbojmcopagbheaaGreatDoor
