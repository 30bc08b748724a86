/-
  No cell of these rows narrows 'for every input' (looked for: loops, veiled, ifaces, maps, wideKeys, modest, calm, conditions, laid).
  DERIVED. THE GIVEN ROWS OF THIS SEAT. 12 by the template 'for every input the law returns true; each argument reads behind the call as it read before'; 0 by the template 'total and deterministic' (their statements: YtlgioldmjohhlaaTotals.lean).
  GIVEN WITH THE SEED: the statements are not yours to turn. If you find one false, say at which input.
  Laid BY PROGRAM, IN A SANDBOX (cutbox-rows.mjs): the forced cells as the released guide's own fill.sh prints them over the translation 7fd8905ee43cdec5… (all of the seat's roots in one cut). By AI agents, Wed Nov 11 2026. No macro, syntax, notation, axiom, sorry.
-/
import Derived.Test.YtlgioldmjohhlaaChecked
import GoSem.Claim
import GoSem.ClaimJoined
import GoSem.ClaimMapViews
import Derived.JoinedTies
import Derived.KernelRfl
namespace Go.Proofs.Ytlgioldmjohhlaa
/- THE CELL 'sum', in the pinned program and in every row, IS THE sha256 OF THE DUMP (.gsa) THAT YtlgioldmjohhlaaProg.lean LOADS. Nothing in Lean hashes anything: it is a label: what it is worth is what the hold of that sum in a sandbox is worth. -/
noncomputable def Try.pinned : Pinned := { name := "ytlgioldmjohhlaa", sum := "7fd8905ee43cdec52aada04f89a5e7b7fefd37266dfd6d88e04ce9b371b8651f", checked := Try.checked }
namespace Rows
def none {H : Type} : Left H := { results := [], args := [] }

/-- 'buchholzlaw07.WorksBest': WHATEVER THE INPUT: true; the input reads as it did. -/
def worksBestSpec : ChangeSpec := { name := "worksBest", fn := fun _ => fun
  | [d] => { results := [.lit (.bool true)], args := [d] }
  | _ => none }
def worksBestRow : OpenClaim := { program := "ytlgioldmjohhlaa", sum := "7fd8905ee43cdec52aada04f89a5e7b7fefd37266dfd6d88e04ce9b371b8651f", func := "buchholz/buchholzlaw07.WorksBest", spec := "worksBest", unfollowed := true, recurses := true, apart := false }
def WorksBestSaid : Prop := worksBestRow.holds Try.pinned (OpenSpec.ofChange worksBestSpec)

/-- ITS FALSE NEIGHBOUR: 'it returns false'. Refute it at one input. -/
def worksBestWrong : ChangeSpec := { name := "worksBest", fn := fun _ => fun
  | [d] => { results := [.lit (.bool false)], args := [d] }
  | _ => none }
def WorksBestWrongFalsely : Prop := worksBestRow.holds Try.pinned (OpenSpec.ofChange worksBestWrong)

/-- 'buchholzlaw07.WorksStacks': WHATEVER THE INPUT: true; the input reads as it did. -/
def worksStacksSpec : ChangeSpec := { name := "worksStacks", fn := fun _ => fun
  | [d1, d2, d3] => { results := [.lit (.bool true)], args := [d1, d2, d3] }
  | _ => none }
def worksStacksRow : OpenClaim := { program := "ytlgioldmjohhlaa", sum := "7fd8905ee43cdec52aada04f89a5e7b7fefd37266dfd6d88e04ce9b371b8651f", func := "buchholz/buchholzlaw07.WorksStacks", spec := "worksStacks", unfollowed := true, recurses := true, apart := false }
def WorksStacksSaid : Prop := worksStacksRow.holds Try.pinned (OpenSpec.ofChange worksStacksSpec)

/-- ITS FALSE NEIGHBOUR: 'it returns false'. Refute it at one input. -/
def worksStacksWrong : ChangeSpec := { name := "worksStacks", fn := fun _ => fun
  | [d1, d2, d3] => { results := [.lit (.bool false)], args := [d1, d2, d3] }
  | _ => none }
def WorksStacksWrongFalsely : Prop := worksStacksRow.holds Try.pinned (OpenSpec.ofChange worksStacksWrong)

/-- 'buchholzlaw07.WorksOverlaps': WHATEVER THE INPUT: true; the input reads as it did. -/
def worksOverlapsSpec : ChangeSpec := { name := "worksOverlaps", fn := fun _ => fun
  | [d1, d2, d3] => { results := [.lit (.bool true)], args := [d1, d2, d3] }
  | _ => none }
def worksOverlapsRow : OpenClaim := { program := "ytlgioldmjohhlaa", sum := "7fd8905ee43cdec52aada04f89a5e7b7fefd37266dfd6d88e04ce9b371b8651f", func := "buchholz/buchholzlaw07.WorksOverlaps", spec := "worksOverlaps", unfollowed := true, recurses := true, apart := false }
def WorksOverlapsSaid : Prop := worksOverlapsRow.holds Try.pinned (OpenSpec.ofChange worksOverlapsSpec)

/-- ITS FALSE NEIGHBOUR: 'it returns false'. Refute it at one input. -/
def worksOverlapsWrong : ChangeSpec := { name := "worksOverlaps", fn := fun _ => fun
  | [d1, d2, d3] => { results := [.lit (.bool false)], args := [d1, d2, d3] }
  | _ => none }
def WorksOverlapsWrongFalsely : Prop := worksOverlapsRow.holds Try.pinned (OpenSpec.ofChange worksOverlapsWrong)

/-- 'buchholzlaw07.WorksLots': WHATEVER THE INPUT: true; the input reads as it did. -/
def worksLotsSpec : ChangeSpec := { name := "worksLots", fn := fun _ => fun
  | [d] => { results := [.lit (.bool true)], args := [d] }
  | _ => none }
def worksLotsRow : OpenClaim := { program := "ytlgioldmjohhlaa", sum := "7fd8905ee43cdec52aada04f89a5e7b7fefd37266dfd6d88e04ce9b371b8651f", func := "buchholz/buchholzlaw07.WorksLots", spec := "worksLots", unfollowed := true, recurses := true, apart := false }
def WorksLotsSaid : Prop := worksLotsRow.holds Try.pinned (OpenSpec.ofChange worksLotsSpec)

/-- ITS FALSE NEIGHBOUR: 'it returns false'. Refute it at one input. -/
def worksLotsWrong : ChangeSpec := { name := "worksLots", fn := fun _ => fun
  | [d] => { results := [.lit (.bool false)], args := [d] }
  | _ => none }
def WorksLotsWrongFalsely : Prop := worksLotsRow.holds Try.pinned (OpenSpec.ofChange worksLotsWrong)

/-- 'buchholzlaw07.WorksDrying': WHATEVER THE INPUT: true; the input reads as it did. -/
def worksDryingSpec : ChangeSpec := { name := "worksDrying", fn := fun _ => fun
  | [d1, d2, d3] => { results := [.lit (.bool true)], args := [d1, d2, d3] }
  | _ => none }
def worksDryingRow : OpenClaim := { program := "ytlgioldmjohhlaa", sum := "7fd8905ee43cdec52aada04f89a5e7b7fefd37266dfd6d88e04ce9b371b8651f", func := "buchholz/buchholzlaw07.WorksDrying", spec := "worksDrying", unfollowed := true, recurses := true, apart := false }
def WorksDryingSaid : Prop := worksDryingRow.holds Try.pinned (OpenSpec.ofChange worksDryingSpec)

/-- ITS FALSE NEIGHBOUR: 'it returns false'. Refute it at one input. -/
def worksDryingWrong : ChangeSpec := { name := "worksDrying", fn := fun _ => fun
  | [d1, d2, d3] => { results := [.lit (.bool false)], args := [d1, d2, d3] }
  | _ => none }
def WorksDryingWrongFalsely : Prop := worksDryingRow.holds Try.pinned (OpenSpec.ofChange worksDryingWrong)

/-- 'buchholzlaw07.WorksForRates': WHATEVER THE INPUT: true; the input reads as it did. -/
def worksForRatesSpec : ChangeSpec := { name := "worksForRates", fn := fun _ => fun
  | [d1, d2, d3] => { results := [.lit (.bool true)], args := [d1, d2, d3] }
  | _ => none }
def worksForRatesRow : OpenClaim := { program := "ytlgioldmjohhlaa", sum := "7fd8905ee43cdec52aada04f89a5e7b7fefd37266dfd6d88e04ce9b371b8651f", func := "buchholz/buchholzlaw07.WorksForRates", spec := "worksForRates", unfollowed := true, recurses := true, apart := false }
def WorksForRatesSaid : Prop := worksForRatesRow.holds Try.pinned (OpenSpec.ofChange worksForRatesSpec)

/-- ITS FALSE NEIGHBOUR: 'it returns false'. Refute it at one input. -/
def worksForRatesWrong : ChangeSpec := { name := "worksForRates", fn := fun _ => fun
  | [d1, d2, d3] => { results := [.lit (.bool false)], args := [d1, d2, d3] }
  | _ => none }
def WorksForRatesWrongFalsely : Prop := worksForRatesRow.holds Try.pinned (OpenSpec.ofChange worksForRatesWrong)

/-- 'buchholzlaw07.WorksTraces': WHATEVER THE INPUT: true; the input reads as it did. -/
def worksTracesSpec : ChangeSpec := { name := "worksTraces", fn := fun _ => fun
  | [d1, d2] => { results := [.lit (.bool true)], args := [d1, d2] }
  | _ => none }
def worksTracesRow : OpenClaim := { program := "ytlgioldmjohhlaa", sum := "7fd8905ee43cdec52aada04f89a5e7b7fefd37266dfd6d88e04ce9b371b8651f", func := "buchholz/buchholzlaw07.WorksTraces", spec := "worksTraces", unfollowed := true, recurses := true, apart := false }
def WorksTracesSaid : Prop := worksTracesRow.holds Try.pinned (OpenSpec.ofChange worksTracesSpec)

/-- ITS FALSE NEIGHBOUR: 'it returns false'. Refute it at one input. -/
def worksTracesWrong : ChangeSpec := { name := "worksTraces", fn := fun _ => fun
  | [d1, d2] => { results := [.lit (.bool false)], args := [d1, d2] }
  | _ => none }
def WorksTracesWrongFalsely : Prop := worksTracesRow.holds Try.pinned (OpenSpec.ofChange worksTracesWrong)

/-- 'buchholzlaw07.WorksBothWays': WHATEVER THE INPUT: true; the input reads as it did. -/
def worksBothWaysSpec : ChangeSpec := { name := "worksBothWays", fn := fun _ => fun
  | [d] => { results := [.lit (.bool true)], args := [d] }
  | _ => none }
def worksBothWaysRow : OpenClaim := { program := "ytlgioldmjohhlaa", sum := "7fd8905ee43cdec52aada04f89a5e7b7fefd37266dfd6d88e04ce9b371b8651f", func := "buchholz/buchholzlaw07.WorksBothWays", spec := "worksBothWays", unfollowed := true, recurses := true, apart := false }
def WorksBothWaysSaid : Prop := worksBothWaysRow.holds Try.pinned (OpenSpec.ofChange worksBothWaysSpec)

/-- ITS FALSE NEIGHBOUR: 'it returns false'. Refute it at one input. -/
def worksBothWaysWrong : ChangeSpec := { name := "worksBothWays", fn := fun _ => fun
  | [d] => { results := [.lit (.bool false)], args := [d] }
  | _ => none }
def WorksBothWaysWrongFalsely : Prop := worksBothWaysRow.holds Try.pinned (OpenSpec.ofChange worksBothWaysWrong)

/-- 'buchholzlaw07.WorksPlans': WHATEVER THE INPUT: true; the input reads as it did. -/
def worksPlansSpec : ChangeSpec := { name := "worksPlans", fn := fun _ => fun
  | [d] => { results := [.lit (.bool true)], args := [d] }
  | _ => none }
def worksPlansRow : OpenClaim := { program := "ytlgioldmjohhlaa", sum := "7fd8905ee43cdec52aada04f89a5e7b7fefd37266dfd6d88e04ce9b371b8651f", func := "buchholz/buchholzlaw07.WorksPlans", spec := "worksPlans", unfollowed := true, recurses := true, apart := false }
def WorksPlansSaid : Prop := worksPlansRow.holds Try.pinned (OpenSpec.ofChange worksPlansSpec)

/-- ITS FALSE NEIGHBOUR: 'it returns false'. Refute it at one input. -/
def worksPlansWrong : ChangeSpec := { name := "worksPlans", fn := fun _ => fun
  | [d] => { results := [.lit (.bool false)], args := [d] }
  | _ => none }
def WorksPlansWrongFalsely : Prop := worksPlansRow.holds Try.pinned (OpenSpec.ofChange worksPlansWrong)

/-- 'buchholzlaw07.WorksSchedules': WHATEVER THE INPUT: true; the input reads as it did. -/
def worksSchedulesSpec : ChangeSpec := { name := "worksSchedules", fn := fun _ => fun
  | [d1, d2] => { results := [.lit (.bool true)], args := [d1, d2] }
  | _ => none }
def worksSchedulesRow : OpenClaim := { program := "ytlgioldmjohhlaa", sum := "7fd8905ee43cdec52aada04f89a5e7b7fefd37266dfd6d88e04ce9b371b8651f", func := "buchholz/buchholzlaw07.WorksSchedules", spec := "worksSchedules", unfollowed := true, recurses := true, apart := false }
def WorksSchedulesSaid : Prop := worksSchedulesRow.holds Try.pinned (OpenSpec.ofChange worksSchedulesSpec)

/-- ITS FALSE NEIGHBOUR: 'it returns false'. Refute it at one input. -/
def worksSchedulesWrong : ChangeSpec := { name := "worksSchedules", fn := fun _ => fun
  | [d1, d2] => { results := [.lit (.bool false)], args := [d1, d2] }
  | _ => none }
def WorksSchedulesWrongFalsely : Prop := worksSchedulesRow.holds Try.pinned (OpenSpec.ofChange worksSchedulesWrong)

/-- 'buchholzlaw07.WorksBounds': WHATEVER THE INPUT: true; the input reads as it did. -/
def worksBoundsSpec : ChangeSpec := { name := "worksBounds", fn := fun _ => fun
  | [d1, d2] => { results := [.lit (.bool true)], args := [d1, d2] }
  | _ => none }
def worksBoundsRow : OpenClaim := { program := "ytlgioldmjohhlaa", sum := "7fd8905ee43cdec52aada04f89a5e7b7fefd37266dfd6d88e04ce9b371b8651f", func := "buchholz/buchholzlaw07.WorksBounds", spec := "worksBounds", unfollowed := true, recurses := true, apart := false }
def WorksBoundsSaid : Prop := worksBoundsRow.holds Try.pinned (OpenSpec.ofChange worksBoundsSpec)

/-- ITS FALSE NEIGHBOUR: 'it returns false'. Refute it at one input. -/
def worksBoundsWrong : ChangeSpec := { name := "worksBounds", fn := fun _ => fun
  | [d1, d2] => { results := [.lit (.bool false)], args := [d1, d2] }
  | _ => none }
def WorksBoundsWrongFalsely : Prop := worksBoundsRow.holds Try.pinned (OpenSpec.ofChange worksBoundsWrong)

/-- 'buchholzlaw07.WorksNoEarlier': WHATEVER THE INPUT: true; the input reads as it did. -/
def worksNoEarlierSpec : ChangeSpec := { name := "worksNoEarlier", fn := fun _ => fun
  | [d1, d2, d3] => { results := [.lit (.bool true)], args := [d1, d2, d3] }
  | _ => none }
def worksNoEarlierRow : OpenClaim := { program := "ytlgioldmjohhlaa", sum := "7fd8905ee43cdec52aada04f89a5e7b7fefd37266dfd6d88e04ce9b371b8651f", func := "buchholz/buchholzlaw07.WorksNoEarlier", spec := "worksNoEarlier", unfollowed := true, recurses := true, apart := false }
def WorksNoEarlierSaid : Prop := worksNoEarlierRow.holds Try.pinned (OpenSpec.ofChange worksNoEarlierSpec)

/-- ITS FALSE NEIGHBOUR: 'it returns false'. Refute it at one input. -/
def worksNoEarlierWrong : ChangeSpec := { name := "worksNoEarlier", fn := fun _ => fun
  | [d1, d2, d3] => { results := [.lit (.bool false)], args := [d1, d2, d3] }
  | _ => none }
def WorksNoEarlierWrongFalsely : Prop := worksNoEarlierRow.holds Try.pinned (OpenSpec.ofChange worksNoEarlierWrong)

/- THE SECOND FORM. 'bulk': how many values and letters a reading holds, each counted each time it is reached (what is shared counts as often as it is met; a slice's spare places count too). A statement '..UptoSaid' is the law's where the arguments, and the package variables that the reading takes, are together of bulk at most 1048576: NARROWER than '..Said'. Prove '..Said' where nothing that the law and all that it calls make is longer than what came in: it says more and counts as full. Else prove '..UptoSaid'. A law counts once. -/
mutual
def uptoBulk {H : Type} : DataW H → Nat
  | .lit (.string bytes) => bytes.length + 1
  | .lit _ => 1
  | .nil => 1
  | .ptr d => uptoBulk d + 1
  | .slice elems spare => uptoBulkAll elems + uptoBulkAll spare + 1
  | .agg parts => uptoBulkAll parts + 1
  | .iface _ d => uptoBulk d + 1
  | .map entries => uptoBulkEntries entries + 1
  | .held _ => 1
def uptoBulkAll {H : Type} : List (DataW H) → Nat
  | [] => 0
  | d :: r => uptoBulk d + uptoBulkAll r
def uptoBulkEntries {H : Type} : List (Lit × DataW H) → Nat
  | [] => 0
  | x :: r => uptoBulkEntry x + uptoBulkEntries r
def uptoBulkEntry {H : Type} : Lit × DataW H → Nat
  | (.string bytes, d) => bytes.length + uptoBulk d + 1
  | (_, d) => uptoBulk d + 1
 end
def uptoSmall : (H : Type) → List (DataW H) → Bool := fun _ ds => decide (uptoBulkAll ds ≤ 1048576)
def OpenSpec.upto (s : _root_.Go.ChangeSpec) : _root_.Go.OpenSpec := { _root_.Go.OpenSpec.ofChange s with cond := some uptoSmall }

/-- 'buchholzlaw07.WorksBest', WHERE WHAT IT READS IS OF BULK AT MOST 1048576: true; the input reads as it did. -/
def worksBestUptoRow : OpenClaim := { program := "ytlgioldmjohhlaa", sum := "7fd8905ee43cdec52aada04f89a5e7b7fefd37266dfd6d88e04ce9b371b8651f", func := "buchholz/buchholzlaw07.WorksBest", spec := "worksBest", unfollowed := true, recurses := true, apart := false, narrowed := true }
def WorksBestUptoSaid : Prop := worksBestUptoRow.holds Try.pinned (OpenSpec.upto worksBestSpec)

/-- 'buchholzlaw07.WorksStacks', WHERE WHAT IT READS IS OF BULK AT MOST 1048576: true; the input reads as it did. -/
def worksStacksUptoRow : OpenClaim := { program := "ytlgioldmjohhlaa", sum := "7fd8905ee43cdec52aada04f89a5e7b7fefd37266dfd6d88e04ce9b371b8651f", func := "buchholz/buchholzlaw07.WorksStacks", spec := "worksStacks", unfollowed := true, recurses := true, apart := false, narrowed := true }
def WorksStacksUptoSaid : Prop := worksStacksUptoRow.holds Try.pinned (OpenSpec.upto worksStacksSpec)

/-- 'buchholzlaw07.WorksOverlaps', WHERE WHAT IT READS IS OF BULK AT MOST 1048576: true; the input reads as it did. -/
def worksOverlapsUptoRow : OpenClaim := { program := "ytlgioldmjohhlaa", sum := "7fd8905ee43cdec52aada04f89a5e7b7fefd37266dfd6d88e04ce9b371b8651f", func := "buchholz/buchholzlaw07.WorksOverlaps", spec := "worksOverlaps", unfollowed := true, recurses := true, apart := false, narrowed := true }
def WorksOverlapsUptoSaid : Prop := worksOverlapsUptoRow.holds Try.pinned (OpenSpec.upto worksOverlapsSpec)

/-- 'buchholzlaw07.WorksLots', WHERE WHAT IT READS IS OF BULK AT MOST 1048576: true; the input reads as it did. -/
def worksLotsUptoRow : OpenClaim := { program := "ytlgioldmjohhlaa", sum := "7fd8905ee43cdec52aada04f89a5e7b7fefd37266dfd6d88e04ce9b371b8651f", func := "buchholz/buchholzlaw07.WorksLots", spec := "worksLots", unfollowed := true, recurses := true, apart := false, narrowed := true }
def WorksLotsUptoSaid : Prop := worksLotsUptoRow.holds Try.pinned (OpenSpec.upto worksLotsSpec)

/-- 'buchholzlaw07.WorksDrying', WHERE WHAT IT READS IS OF BULK AT MOST 1048576: true; the input reads as it did. -/
def worksDryingUptoRow : OpenClaim := { program := "ytlgioldmjohhlaa", sum := "7fd8905ee43cdec52aada04f89a5e7b7fefd37266dfd6d88e04ce9b371b8651f", func := "buchholz/buchholzlaw07.WorksDrying", spec := "worksDrying", unfollowed := true, recurses := true, apart := false, narrowed := true }
def WorksDryingUptoSaid : Prop := worksDryingUptoRow.holds Try.pinned (OpenSpec.upto worksDryingSpec)

/-- 'buchholzlaw07.WorksForRates', WHERE WHAT IT READS IS OF BULK AT MOST 1048576: true; the input reads as it did. -/
def worksForRatesUptoRow : OpenClaim := { program := "ytlgioldmjohhlaa", sum := "7fd8905ee43cdec52aada04f89a5e7b7fefd37266dfd6d88e04ce9b371b8651f", func := "buchholz/buchholzlaw07.WorksForRates", spec := "worksForRates", unfollowed := true, recurses := true, apart := false, narrowed := true }
def WorksForRatesUptoSaid : Prop := worksForRatesUptoRow.holds Try.pinned (OpenSpec.upto worksForRatesSpec)

/-- 'buchholzlaw07.WorksTraces', WHERE WHAT IT READS IS OF BULK AT MOST 1048576: true; the input reads as it did. -/
def worksTracesUptoRow : OpenClaim := { program := "ytlgioldmjohhlaa", sum := "7fd8905ee43cdec52aada04f89a5e7b7fefd37266dfd6d88e04ce9b371b8651f", func := "buchholz/buchholzlaw07.WorksTraces", spec := "worksTraces", unfollowed := true, recurses := true, apart := false, narrowed := true }
def WorksTracesUptoSaid : Prop := worksTracesUptoRow.holds Try.pinned (OpenSpec.upto worksTracesSpec)

/-- 'buchholzlaw07.WorksBothWays', WHERE WHAT IT READS IS OF BULK AT MOST 1048576: true; the input reads as it did. -/
def worksBothWaysUptoRow : OpenClaim := { program := "ytlgioldmjohhlaa", sum := "7fd8905ee43cdec52aada04f89a5e7b7fefd37266dfd6d88e04ce9b371b8651f", func := "buchholz/buchholzlaw07.WorksBothWays", spec := "worksBothWays", unfollowed := true, recurses := true, apart := false, narrowed := true }
def WorksBothWaysUptoSaid : Prop := worksBothWaysUptoRow.holds Try.pinned (OpenSpec.upto worksBothWaysSpec)

/-- 'buchholzlaw07.WorksPlans', WHERE WHAT IT READS IS OF BULK AT MOST 1048576: true; the input reads as it did. -/
def worksPlansUptoRow : OpenClaim := { program := "ytlgioldmjohhlaa", sum := "7fd8905ee43cdec52aada04f89a5e7b7fefd37266dfd6d88e04ce9b371b8651f", func := "buchholz/buchholzlaw07.WorksPlans", spec := "worksPlans", unfollowed := true, recurses := true, apart := false, narrowed := true }
def WorksPlansUptoSaid : Prop := worksPlansUptoRow.holds Try.pinned (OpenSpec.upto worksPlansSpec)

/-- 'buchholzlaw07.WorksSchedules', WHERE WHAT IT READS IS OF BULK AT MOST 1048576: true; the input reads as it did. -/
def worksSchedulesUptoRow : OpenClaim := { program := "ytlgioldmjohhlaa", sum := "7fd8905ee43cdec52aada04f89a5e7b7fefd37266dfd6d88e04ce9b371b8651f", func := "buchholz/buchholzlaw07.WorksSchedules", spec := "worksSchedules", unfollowed := true, recurses := true, apart := false, narrowed := true }
def WorksSchedulesUptoSaid : Prop := worksSchedulesUptoRow.holds Try.pinned (OpenSpec.upto worksSchedulesSpec)

/-- 'buchholzlaw07.WorksBounds', WHERE WHAT IT READS IS OF BULK AT MOST 1048576: true; the input reads as it did. -/
def worksBoundsUptoRow : OpenClaim := { program := "ytlgioldmjohhlaa", sum := "7fd8905ee43cdec52aada04f89a5e7b7fefd37266dfd6d88e04ce9b371b8651f", func := "buchholz/buchholzlaw07.WorksBounds", spec := "worksBounds", unfollowed := true, recurses := true, apart := false, narrowed := true }
def WorksBoundsUptoSaid : Prop := worksBoundsUptoRow.holds Try.pinned (OpenSpec.upto worksBoundsSpec)

/-- 'buchholzlaw07.WorksNoEarlier', WHERE WHAT IT READS IS OF BULK AT MOST 1048576: true; the input reads as it did. -/
def worksNoEarlierUptoRow : OpenClaim := { program := "ytlgioldmjohhlaa", sum := "7fd8905ee43cdec52aada04f89a5e7b7fefd37266dfd6d88e04ce9b371b8651f", func := "buchholz/buchholzlaw07.WorksNoEarlier", spec := "worksNoEarlier", unfollowed := true, recurses := true, apart := false, narrowed := true }
def WorksNoEarlierUptoSaid : Prop := worksNoEarlierUptoRow.holds Try.pinned (OpenSpec.upto worksNoEarlierSpec)

end Rows
end Go.Proofs.Ytlgioldmjohhlaa
