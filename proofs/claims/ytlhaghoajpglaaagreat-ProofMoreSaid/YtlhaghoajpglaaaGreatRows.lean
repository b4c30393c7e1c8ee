/-
  NARROWER THAN 'FOR EVERY INPUT', by the rows' own cells (each row's printed sentence says how): ExpandTells: loops · BulkMany: loops · ProofProves: loops · ProofVerifies: loops · LookupSubjects: loops · LookupObjects: loops · LookupSets: loops.
  DERIVED. THE GIVEN ROWS OF THIS SEAT. 14 by the template 'for every input the law returns true; each argument reads behind the call as it read before'; 0 by the template 'total and deterministic' (their statements: YtlhaghoajpglaaaGreatTotals.lean).
  GIVEN WITH THE SEED: the statements are not yours to turn. If you find one false, say at which input.
  Laid BY PROGRAM, IN A SANDBOX (cutbox-rows.mjs): the forced cells as the released guide's own fill.sh prints them over the translation 81b53e3175b90a29… (all of the seat's roots in one cut). By AI agents, Wed Nov 11 2026. No macro, syntax, notation, axiom, sorry.
-/
import Derived.Test.YtlhaghoajpglaaaGreatChecked
import GoSem.Claim
import GoSem.ClaimJoined
import GoSem.ClaimMapViews
import Derived.JoinedTies
import Derived.KernelRfl
namespace Go.Proofs.YtlhaghoajpglaaaGreat
/- THE CELL 'sum', in the pinned program and in every row, IS THE sha256 OF THE DUMP (.gsa) THAT YtlhaghoajpglaaaGreatProg.lean LOADS. Nothing in Lean hashes anything: it is a label: what it is worth is what the hold of that sum in a sandbox is worth. -/
noncomputable def Tryz.pinned : Pinned := { name := "ytlhaghoajpglaaagreat", sum := "81b53e3175b90a29632f8481542ed2929179430a072785bafda14e4fd9bee6cc", checked := Tryz.checked }
namespace Rows
def none {H : Type} : Left H := { results := [], args := [] }

/-- 'sentrylaw28.ExpandMeans': WHATEVER THE INPUT: true; the input reads as it did. -/
def expandMeansSpec : ChangeSpec := { name := "expandMeans", fn := fun _ => fun
  | [d1, d2] => { results := [.lit (.bool true)], args := [d1, d2] }
  | _ => none }
def expandMeansRow : OpenClaim := { program := "ytlhaghoajpglaaagreat", sum := "81b53e3175b90a29632f8481542ed2929179430a072785bafda14e4fd9bee6cc", func := "sentry/sentrylaw28.ExpandMeans", spec := "expandMeans", inPlace := ["internal/bytealg.abigen_runtime_cmpstring", "internal/abi.NoEscape"], unfollowed := true, recurses := true, plainKeys := false, apart := false }
def ExpandMeansSaid : Prop := expandMeansRow.holds Tryz.pinned (OpenSpec.ofChange expandMeansSpec)

/-- ITS FALSE NEIGHBOUR: 'it returns false'. Refute it at one input. -/
def expandMeansWrong : ChangeSpec := { name := "expandMeans", fn := fun _ => fun
  | [d1, d2] => { results := [.lit (.bool false)], args := [d1, d2] }
  | _ => none }
def ExpandMeansWrongFalsely : Prop := expandMeansRow.holds Tryz.pinned (OpenSpec.ofChange expandMeansWrong)

/-- 'sentrylaw28.ExpandTells': WHATEVER THE INPUT: true; the input reads as it did. -/
def expandTellsSpec : ChangeSpec := { name := "expandTells", fn := fun _ => fun
  | [d] => { results := [.lit (.bool true)], args := [d] }
  | _ => none }
def expandTellsRow : OpenClaim := { program := "ytlhaghoajpglaaagreat", sum := "81b53e3175b90a29632f8481542ed2929179430a072785bafda14e4fd9bee6cc", func := "sentry/sentrylaw28.ExpandTells", spec := "expandTells", inPlace := ["internal/bytealg.abigen_runtime_cmpstring", "internal/abi.NoEscape"], unfollowed := true, recurses := true, loops := true, plainKeys := false, apart := false }
def ExpandTellsSaid : Prop := expandTellsRow.holds Tryz.pinned (OpenSpec.ofChange expandTellsSpec)

/-- ITS FALSE NEIGHBOUR: 'it returns false'. Refute it at one input. -/
def expandTellsWrong : ChangeSpec := { name := "expandTells", fn := fun _ => fun
  | [d] => { results := [.lit (.bool false)], args := [d] }
  | _ => none }
def ExpandTellsWrongFalsely : Prop := expandTellsRow.holds Tryz.pinned (OpenSpec.ofChange expandTellsWrong)

/-- 'sentrylaw27.CheckRing': WHATEVER THE INPUT: true; the input reads as it did. -/
def checkRingSpec : ChangeSpec := { name := "checkRing", fn := fun _ => fun
  | [d1, d2, d3] => { results := [.lit (.bool true)], args := [d1, d2, d3] }
  | _ => none }
def checkRingRow : OpenClaim := { program := "ytlhaghoajpglaaagreat", sum := "81b53e3175b90a29632f8481542ed2929179430a072785bafda14e4fd9bee6cc", func := "sentry/sentrylaw27.CheckRing", spec := "checkRing", inPlace := ["internal/bytealg.abigen_runtime_cmpstring", "internal/abi.NoEscape"], unfollowed := true, recurses := true, plainKeys := false, apart := false }
def CheckRingSaid : Prop := checkRingRow.holds Tryz.pinned (OpenSpec.ofChange checkRingSpec)

/-- ITS FALSE NEIGHBOUR: 'it returns false'. Refute it at one input. -/
def checkRingWrong : ChangeSpec := { name := "checkRing", fn := fun _ => fun
  | [d1, d2, d3] => { results := [.lit (.bool false)], args := [d1, d2, d3] }
  | _ => none }
def CheckRingWrongFalsely : Prop := checkRingRow.holds Tryz.pinned (OpenSpec.ofChange checkRingWrong)

/-- 'sentrylaw32.BulkMany': WHATEVER THE INPUT: true; the input reads as it did. -/
def bulkManySpec : ChangeSpec := { name := "bulkMany", fn := fun _ => fun
  | [d1, d2, d3, d4, d5] => { results := [.lit (.bool true)], args := [d1, d2, d3, d4, d5] }
  | _ => none }
def bulkManyRow : OpenClaim := { program := "ytlhaghoajpglaaagreat", sum := "81b53e3175b90a29632f8481542ed2929179430a072785bafda14e4fd9bee6cc", func := "sentry/sentrylaw32.BulkMany", spec := "bulkMany", inPlace := ["internal/bytealg.abigen_runtime_cmpstring", "internal/abi.NoEscape"], unfollowed := true, recurses := true, loops := true, plainKeys := false, apart := false }
def BulkManySaid : Prop := bulkManyRow.holds Tryz.pinned (OpenSpec.ofChange bulkManySpec)

/-- ITS FALSE NEIGHBOUR: 'it returns false'. Refute it at one input. -/
def bulkManyWrong : ChangeSpec := { name := "bulkMany", fn := fun _ => fun
  | [d1, d2, d3, d4, d5] => { results := [.lit (.bool false)], args := [d1, d2, d3, d4, d5] }
  | _ => none }
def BulkManyWrongFalsely : Prop := bulkManyRow.holds Tryz.pinned (OpenSpec.ofChange bulkManyWrong)

/-- 'sentrylaw32.BulkAlone': WHATEVER THE INPUT: true; the input reads as it did. -/
def bulkAloneSpec : ChangeSpec := { name := "bulkAlone", fn := fun _ => fun
  | [d1, d2] => { results := [.lit (.bool true)], args := [d1, d2] }
  | _ => none }
def bulkAloneRow : OpenClaim := { program := "ytlhaghoajpglaaagreat", sum := "81b53e3175b90a29632f8481542ed2929179430a072785bafda14e4fd9bee6cc", func := "sentry/sentrylaw32.BulkAlone", spec := "bulkAlone", inPlace := ["internal/bytealg.abigen_runtime_cmpstring", "internal/abi.NoEscape"], unfollowed := true, recurses := true, plainKeys := false, apart := false }
def BulkAloneSaid : Prop := bulkAloneRow.holds Tryz.pinned (OpenSpec.ofChange bulkAloneSpec)

/-- ITS FALSE NEIGHBOUR: 'it returns false'. Refute it at one input. -/
def bulkAloneWrong : ChangeSpec := { name := "bulkAlone", fn := fun _ => fun
  | [d1, d2] => { results := [.lit (.bool false)], args := [d1, d2] }
  | _ => none }
def BulkAloneWrongFalsely : Prop := bulkAloneRow.holds Tryz.pinned (OpenSpec.ofChange bulkAloneWrong)

/-- 'sentrylaw32.BulkGrid': WHATEVER THE INPUT: true; the input reads as it did. -/
def bulkGridSpec : ChangeSpec := { name := "bulkGrid", fn := fun _ => fun
  | [d1, d2] => { results := [.lit (.bool true)], args := [d1, d2] }
  | _ => none }
def bulkGridRow : OpenClaim := { program := "ytlhaghoajpglaaagreat", sum := "81b53e3175b90a29632f8481542ed2929179430a072785bafda14e4fd9bee6cc", func := "sentry/sentrylaw32.BulkGrid", spec := "bulkGrid", inPlace := ["internal/bytealg.abigen_runtime_cmpstring", "internal/abi.NoEscape"], unfollowed := true, recurses := true, plainKeys := false, apart := false }
def BulkGridSaid : Prop := bulkGridRow.holds Tryz.pinned (OpenSpec.ofChange bulkGridSpec)

/-- ITS FALSE NEIGHBOUR: 'it returns false'. Refute it at one input. -/
def bulkGridWrong : ChangeSpec := { name := "bulkGrid", fn := fun _ => fun
  | [d1, d2] => { results := [.lit (.bool false)], args := [d1, d2] }
  | _ => none }
def BulkGridWrongFalsely : Prop := bulkGridRow.holds Tryz.pinned (OpenSpec.ofChange bulkGridWrong)

/-- 'sentrylaw32.BulkDiff': WHATEVER THE INPUT: true; the input reads as it did. -/
def bulkDiffSpec : ChangeSpec := { name := "bulkDiff", fn := fun _ => fun
  | [d1, d2, d3] => { results := [.lit (.bool true)], args := [d1, d2, d3] }
  | _ => none }
def bulkDiffRow : OpenClaim := { program := "ytlhaghoajpglaaagreat", sum := "81b53e3175b90a29632f8481542ed2929179430a072785bafda14e4fd9bee6cc", func := "sentry/sentrylaw32.BulkDiff", spec := "bulkDiff", inPlace := ["internal/bytealg.abigen_runtime_cmpstring", "internal/abi.NoEscape"], unfollowed := true, recurses := true, plainKeys := false, apart := false }
def BulkDiffSaid : Prop := bulkDiffRow.holds Tryz.pinned (OpenSpec.ofChange bulkDiffSpec)

/-- ITS FALSE NEIGHBOUR: 'it returns false'. Refute it at one input. -/
def bulkDiffWrong : ChangeSpec := { name := "bulkDiff", fn := fun _ => fun
  | [d1, d2, d3] => { results := [.lit (.bool false)], args := [d1, d2, d3] }
  | _ => none }
def BulkDiffWrongFalsely : Prop := bulkDiffRow.holds Tryz.pinned (OpenSpec.ofChange bulkDiffWrong)

/-- 'sentrylaw29.ProofProves': WHATEVER THE INPUT: true; the input reads as it did. -/
def proofProvesSpec : ChangeSpec := { name := "proofProves", fn := fun _ => fun
  | [d1, d2, d3, d4] => { results := [.lit (.bool true)], args := [d1, d2, d3, d4] }
  | _ => none }
def proofProvesRow : OpenClaim := { program := "ytlhaghoajpglaaagreat", sum := "81b53e3175b90a29632f8481542ed2929179430a072785bafda14e4fd9bee6cc", func := "sentry/sentrylaw29.ProofProves", spec := "proofProves", inPlace := ["internal/bytealg.abigen_runtime_cmpstring", "internal/abi.NoEscape"], unfollowed := true, recurses := true, loops := true, plainKeys := false, apart := false }
def ProofProvesSaid : Prop := proofProvesRow.holds Tryz.pinned (OpenSpec.ofChange proofProvesSpec)

/-- ITS FALSE NEIGHBOUR: 'it returns false'. Refute it at one input. -/
def proofProvesWrong : ChangeSpec := { name := "proofProves", fn := fun _ => fun
  | [d1, d2, d3, d4] => { results := [.lit (.bool false)], args := [d1, d2, d3, d4] }
  | _ => none }
def ProofProvesWrongFalsely : Prop := proofProvesRow.holds Tryz.pinned (OpenSpec.ofChange proofProvesWrong)

/-- 'sentrylaw29.ProofVerifies': WHATEVER THE INPUT: true; the input reads as it did. -/
def proofVerifiesSpec : ChangeSpec := { name := "proofVerifies", fn := fun _ => fun
  | [d1, d2, d3, d4] => { results := [.lit (.bool true)], args := [d1, d2, d3, d4] }
  | _ => none }
def proofVerifiesRow : OpenClaim := { program := "ytlhaghoajpglaaagreat", sum := "81b53e3175b90a29632f8481542ed2929179430a072785bafda14e4fd9bee6cc", func := "sentry/sentrylaw29.ProofVerifies", spec := "proofVerifies", inPlace := ["internal/bytealg.abigen_runtime_cmpstring", "internal/abi.NoEscape"], unfollowed := true, recurses := true, loops := true, plainKeys := false, apart := false }
def ProofVerifiesSaid : Prop := proofVerifiesRow.holds Tryz.pinned (OpenSpec.ofChange proofVerifiesSpec)

/-- ITS FALSE NEIGHBOUR: 'it returns false'. Refute it at one input. -/
def proofVerifiesWrong : ChangeSpec := { name := "proofVerifies", fn := fun _ => fun
  | [d1, d2, d3, d4] => { results := [.lit (.bool false)], args := [d1, d2, d3, d4] }
  | _ => none }
def ProofVerifiesWrongFalsely : Prop := proofVerifiesRow.holds Tryz.pinned (OpenSpec.ofChange proofVerifiesWrong)

/-- 'sentrylaw29.ProofMore': WHATEVER THE INPUT: true; the input reads as it did. -/
def proofMoreSpec : ChangeSpec := { name := "proofMore", fn := fun _ => fun
  | [d1, d2] => { results := [.lit (.bool true)], args := [d1, d2] }
  | _ => none }
def proofMoreRow : OpenClaim := { program := "ytlhaghoajpglaaagreat", sum := "81b53e3175b90a29632f8481542ed2929179430a072785bafda14e4fd9bee6cc", func := "sentry/sentrylaw29.ProofMore", spec := "proofMore", inPlace := ["internal/bytealg.abigen_runtime_cmpstring", "internal/abi.NoEscape"], unfollowed := true, recurses := true, plainKeys := false, apart := false }
def ProofMoreSaid : Prop := proofMoreRow.holds Tryz.pinned (OpenSpec.ofChange proofMoreSpec)

/-- ITS FALSE NEIGHBOUR: 'it returns false'. Refute it at one input. -/
def proofMoreWrong : ChangeSpec := { name := "proofMore", fn := fun _ => fun
  | [d1, d2] => { results := [.lit (.bool false)], args := [d1, d2] }
  | _ => none }
def ProofMoreWrongFalsely : Prop := proofMoreRow.holds Tryz.pinned (OpenSpec.ofChange proofMoreWrong)

/-- 'sentrylaw30.LookupSubjects': WHATEVER THE INPUT: true; the input reads as it did. -/
def lookupSubjectsSpec : ChangeSpec := { name := "lookupSubjects", fn := fun _ => fun
  | [d1, d2, d3, d4, d5, d6] => { results := [.lit (.bool true)], args := [d1, d2, d3, d4, d5, d6] }
  | _ => none }
def lookupSubjectsRow : OpenClaim := { program := "ytlhaghoajpglaaagreat", sum := "81b53e3175b90a29632f8481542ed2929179430a072785bafda14e4fd9bee6cc", func := "sentry/sentrylaw30.LookupSubjects", spec := "lookupSubjects", inPlace := ["internal/bytealg.abigen_runtime_cmpstring", "internal/abi.NoEscape"], unfollowed := true, recurses := true, loops := true, plainKeys := false, apart := false }
def LookupSubjectsSaid : Prop := lookupSubjectsRow.holds Tryz.pinned (OpenSpec.ofChange lookupSubjectsSpec)

/-- ITS FALSE NEIGHBOUR: 'it returns false'. Refute it at one input. -/
def lookupSubjectsWrong : ChangeSpec := { name := "lookupSubjects", fn := fun _ => fun
  | [d1, d2, d3, d4, d5, d6] => { results := [.lit (.bool false)], args := [d1, d2, d3, d4, d5, d6] }
  | _ => none }
def LookupSubjectsWrongFalsely : Prop := lookupSubjectsRow.holds Tryz.pinned (OpenSpec.ofChange lookupSubjectsWrong)

/-- 'sentrylaw30.LookupObjects': WHATEVER THE INPUT: true; the input reads as it did. -/
def lookupObjectsSpec : ChangeSpec := { name := "lookupObjects", fn := fun _ => fun
  | [d1, d2, d3, d4, d5, d6] => { results := [.lit (.bool true)], args := [d1, d2, d3, d4, d5, d6] }
  | _ => none }
def lookupObjectsRow : OpenClaim := { program := "ytlhaghoajpglaaagreat", sum := "81b53e3175b90a29632f8481542ed2929179430a072785bafda14e4fd9bee6cc", func := "sentry/sentrylaw30.LookupObjects", spec := "lookupObjects", inPlace := ["internal/bytealg.abigen_runtime_cmpstring", "internal/abi.NoEscape"], unfollowed := true, recurses := true, loops := true, plainKeys := false, apart := false }
def LookupObjectsSaid : Prop := lookupObjectsRow.holds Tryz.pinned (OpenSpec.ofChange lookupObjectsSpec)

/-- ITS FALSE NEIGHBOUR: 'it returns false'. Refute it at one input. -/
def lookupObjectsWrong : ChangeSpec := { name := "lookupObjects", fn := fun _ => fun
  | [d1, d2, d3, d4, d5, d6] => { results := [.lit (.bool false)], args := [d1, d2, d3, d4, d5, d6] }
  | _ => none }
def LookupObjectsWrongFalsely : Prop := lookupObjectsRow.holds Tryz.pinned (OpenSpec.ofChange lookupObjectsWrong)

/-- 'sentrylaw30.LookupBoth': WHATEVER THE INPUT: true; the input reads as it did. -/
def lookupBothSpec : ChangeSpec := { name := "lookupBoth", fn := fun _ => fun
  | [d] => { results := [.lit (.bool true)], args := [d] }
  | _ => none }
def lookupBothRow : OpenClaim := { program := "ytlhaghoajpglaaagreat", sum := "81b53e3175b90a29632f8481542ed2929179430a072785bafda14e4fd9bee6cc", func := "sentry/sentrylaw30.LookupBoth", spec := "lookupBoth", inPlace := ["internal/bytealg.abigen_runtime_cmpstring", "internal/abi.NoEscape"], unfollowed := true, recurses := true, plainKeys := false, apart := false }
def LookupBothSaid : Prop := lookupBothRow.holds Tryz.pinned (OpenSpec.ofChange lookupBothSpec)

/-- ITS FALSE NEIGHBOUR: 'it returns false'. Refute it at one input. -/
def lookupBothWrong : ChangeSpec := { name := "lookupBoth", fn := fun _ => fun
  | [d] => { results := [.lit (.bool false)], args := [d] }
  | _ => none }
def LookupBothWrongFalsely : Prop := lookupBothRow.holds Tryz.pinned (OpenSpec.ofChange lookupBothWrong)

/-- 'sentrylaw30.LookupSets': WHATEVER THE INPUT: true; the input reads as it did. -/
def lookupSetsSpec : ChangeSpec := { name := "lookupSets", fn := fun _ => fun
  | [d1, d2] => { results := [.lit (.bool true)], args := [d1, d2] }
  | _ => none }
def lookupSetsRow : OpenClaim := { program := "ytlhaghoajpglaaagreat", sum := "81b53e3175b90a29632f8481542ed2929179430a072785bafda14e4fd9bee6cc", func := "sentry/sentrylaw30.LookupSets", spec := "lookupSets", inPlace := ["internal/bytealg.abigen_runtime_cmpstring", "internal/abi.NoEscape"], unfollowed := true, recurses := true, loops := true, plainKeys := false, apart := false }
def LookupSetsSaid : Prop := lookupSetsRow.holds Tryz.pinned (OpenSpec.ofChange lookupSetsSpec)

/-- ITS FALSE NEIGHBOUR: 'it returns false'. Refute it at one input. -/
def lookupSetsWrong : ChangeSpec := { name := "lookupSets", fn := fun _ => fun
  | [d1, d2] => { results := [.lit (.bool false)], args := [d1, d2] }
  | _ => none }
def LookupSetsWrongFalsely : Prop := lookupSetsRow.holds Tryz.pinned (OpenSpec.ofChange lookupSetsWrong)

/- THE SECOND FORM. 'bulk': how many values and letters a reading holds, each counted each time it is reached (what is shared counts as often as it is met; a slice's spare places count too). A statement '..UptoSaid' is the law's where the arguments, and the package variables that the reading takes, are together of bulk at most 1048576: NARROWER than '..Said'. Prove '..Said' where nothing that the law and all that it calls make is longer than what came in: it says more and counts as full. Else prove '..UptoSaid'. A law counts once. -/
mutual
def uptoBulk {H : Type} : DataW H → Nat
  | .lit (.string bytes) => bytes.length + 1
  | .lit _ => 1
  | .nil => 1
  | .ptr d => uptoBulk d + 1
  | .slice elems spare => uptoBulkAll elems + uptoBulkAll spare + 1
  | .agg parts => uptoBulkAll parts + 1
  | .iface _ d => uptoBulk d + 1
  | .map entries => uptoBulkEntries entries + 1
  | .held _ => 1
def uptoBulkAll {H : Type} : List (DataW H) → Nat
  | [] => 0
  | d :: r => uptoBulk d + uptoBulkAll r
def uptoBulkEntries {H : Type} : List (Lit × DataW H) → Nat
  | [] => 0
  | x :: r => uptoBulkEntry x + uptoBulkEntries r
def uptoBulkEntry {H : Type} : Lit × DataW H → Nat
  | (.string bytes, d) => bytes.length + uptoBulk d + 1
  | (_, d) => uptoBulk d + 1
 end
def uptoSmall : (H : Type) → List (DataW H) → Bool := fun _ ds => decide (uptoBulkAll ds ≤ 1048576)
def OpenSpec.upto (s : _root_.Go.ChangeSpec) : _root_.Go.OpenSpec := { _root_.Go.OpenSpec.ofChange s with cond := some uptoSmall }

/-- 'sentrylaw28.ExpandMeans', WHERE WHAT IT READS IS OF BULK AT MOST 1048576: true; the input reads as it did. -/
def expandMeansUptoRow : OpenClaim := { program := "ytlhaghoajpglaaagreat", sum := "81b53e3175b90a29632f8481542ed2929179430a072785bafda14e4fd9bee6cc", func := "sentry/sentrylaw28.ExpandMeans", spec := "expandMeans", inPlace := ["internal/bytealg.abigen_runtime_cmpstring", "internal/abi.NoEscape"], unfollowed := true, recurses := true, plainKeys := false, apart := false, narrowed := true }
def ExpandMeansUptoSaid : Prop := expandMeansUptoRow.holds Tryz.pinned (OpenSpec.upto expandMeansSpec)

/-- 'sentrylaw28.ExpandTells', WHERE WHAT IT READS IS OF BULK AT MOST 1048576: true; the input reads as it did. -/
def expandTellsUptoRow : OpenClaim := { program := "ytlhaghoajpglaaagreat", sum := "81b53e3175b90a29632f8481542ed2929179430a072785bafda14e4fd9bee6cc", func := "sentry/sentrylaw28.ExpandTells", spec := "expandTells", inPlace := ["internal/bytealg.abigen_runtime_cmpstring", "internal/abi.NoEscape"], unfollowed := true, recurses := true, loops := true, plainKeys := false, apart := false, narrowed := true }
def ExpandTellsUptoSaid : Prop := expandTellsUptoRow.holds Tryz.pinned (OpenSpec.upto expandTellsSpec)

/-- 'sentrylaw27.CheckRing', WHERE WHAT IT READS IS OF BULK AT MOST 1048576: true; the input reads as it did. -/
def checkRingUptoRow : OpenClaim := { program := "ytlhaghoajpglaaagreat", sum := "81b53e3175b90a29632f8481542ed2929179430a072785bafda14e4fd9bee6cc", func := "sentry/sentrylaw27.CheckRing", spec := "checkRing", inPlace := ["internal/bytealg.abigen_runtime_cmpstring", "internal/abi.NoEscape"], unfollowed := true, recurses := true, plainKeys := false, apart := false, narrowed := true }
def CheckRingUptoSaid : Prop := checkRingUptoRow.holds Tryz.pinned (OpenSpec.upto checkRingSpec)

/-- 'sentrylaw32.BulkMany', WHERE WHAT IT READS IS OF BULK AT MOST 1048576: true; the input reads as it did. -/
def bulkManyUptoRow : OpenClaim := { program := "ytlhaghoajpglaaagreat", sum := "81b53e3175b90a29632f8481542ed2929179430a072785bafda14e4fd9bee6cc", func := "sentry/sentrylaw32.BulkMany", spec := "bulkMany", inPlace := ["internal/bytealg.abigen_runtime_cmpstring", "internal/abi.NoEscape"], unfollowed := true, recurses := true, loops := true, plainKeys := false, apart := false, narrowed := true }
def BulkManyUptoSaid : Prop := bulkManyUptoRow.holds Tryz.pinned (OpenSpec.upto bulkManySpec)

/-- 'sentrylaw32.BulkAlone', WHERE WHAT IT READS IS OF BULK AT MOST 1048576: true; the input reads as it did. -/
def bulkAloneUptoRow : OpenClaim := { program := "ytlhaghoajpglaaagreat", sum := "81b53e3175b90a29632f8481542ed2929179430a072785bafda14e4fd9bee6cc", func := "sentry/sentrylaw32.BulkAlone", spec := "bulkAlone", inPlace := ["internal/bytealg.abigen_runtime_cmpstring", "internal/abi.NoEscape"], unfollowed := true, recurses := true, plainKeys := false, apart := false, narrowed := true }
def BulkAloneUptoSaid : Prop := bulkAloneUptoRow.holds Tryz.pinned (OpenSpec.upto bulkAloneSpec)

/-- 'sentrylaw32.BulkGrid', WHERE WHAT IT READS IS OF BULK AT MOST 1048576: true; the input reads as it did. -/
def bulkGridUptoRow : OpenClaim := { program := "ytlhaghoajpglaaagreat", sum := "81b53e3175b90a29632f8481542ed2929179430a072785bafda14e4fd9bee6cc", func := "sentry/sentrylaw32.BulkGrid", spec := "bulkGrid", inPlace := ["internal/bytealg.abigen_runtime_cmpstring", "internal/abi.NoEscape"], unfollowed := true, recurses := true, plainKeys := false, apart := false, narrowed := true }
def BulkGridUptoSaid : Prop := bulkGridUptoRow.holds Tryz.pinned (OpenSpec.upto bulkGridSpec)

/-- 'sentrylaw32.BulkDiff', WHERE WHAT IT READS IS OF BULK AT MOST 1048576: true; the input reads as it did. -/
def bulkDiffUptoRow : OpenClaim := { program := "ytlhaghoajpglaaagreat", sum := "81b53e3175b90a29632f8481542ed2929179430a072785bafda14e4fd9bee6cc", func := "sentry/sentrylaw32.BulkDiff", spec := "bulkDiff", inPlace := ["internal/bytealg.abigen_runtime_cmpstring", "internal/abi.NoEscape"], unfollowed := true, recurses := true, plainKeys := false, apart := false, narrowed := true }
def BulkDiffUptoSaid : Prop := bulkDiffUptoRow.holds Tryz.pinned (OpenSpec.upto bulkDiffSpec)

/-- 'sentrylaw29.ProofProves', WHERE WHAT IT READS IS OF BULK AT MOST 1048576: true; the input reads as it did. -/
def proofProvesUptoRow : OpenClaim := { program := "ytlhaghoajpglaaagreat", sum := "81b53e3175b90a29632f8481542ed2929179430a072785bafda14e4fd9bee6cc", func := "sentry/sentrylaw29.ProofProves", spec := "proofProves", inPlace := ["internal/bytealg.abigen_runtime_cmpstring", "internal/abi.NoEscape"], unfollowed := true, recurses := true, loops := true, plainKeys := false, apart := false, narrowed := true }
def ProofProvesUptoSaid : Prop := proofProvesUptoRow.holds Tryz.pinned (OpenSpec.upto proofProvesSpec)

/-- 'sentrylaw29.ProofVerifies', WHERE WHAT IT READS IS OF BULK AT MOST 1048576: true; the input reads as it did. -/
def proofVerifiesUptoRow : OpenClaim := { program := "ytlhaghoajpglaaagreat", sum := "81b53e3175b90a29632f8481542ed2929179430a072785bafda14e4fd9bee6cc", func := "sentry/sentrylaw29.ProofVerifies", spec := "proofVerifies", inPlace := ["internal/bytealg.abigen_runtime_cmpstring", "internal/abi.NoEscape"], unfollowed := true, recurses := true, loops := true, plainKeys := false, apart := false, narrowed := true }
def ProofVerifiesUptoSaid : Prop := proofVerifiesUptoRow.holds Tryz.pinned (OpenSpec.upto proofVerifiesSpec)

/-- 'sentrylaw29.ProofMore', WHERE WHAT IT READS IS OF BULK AT MOST 1048576: true; the input reads as it did. -/
def proofMoreUptoRow : OpenClaim := { program := "ytlhaghoajpglaaagreat", sum := "81b53e3175b90a29632f8481542ed2929179430a072785bafda14e4fd9bee6cc", func := "sentry/sentrylaw29.ProofMore", spec := "proofMore", inPlace := ["internal/bytealg.abigen_runtime_cmpstring", "internal/abi.NoEscape"], unfollowed := true, recurses := true, plainKeys := false, apart := false, narrowed := true }
def ProofMoreUptoSaid : Prop := proofMoreUptoRow.holds Tryz.pinned (OpenSpec.upto proofMoreSpec)

/-- 'sentrylaw30.LookupSubjects', WHERE WHAT IT READS IS OF BULK AT MOST 1048576: true; the input reads as it did. -/
def lookupSubjectsUptoRow : OpenClaim := { program := "ytlhaghoajpglaaagreat", sum := "81b53e3175b90a29632f8481542ed2929179430a072785bafda14e4fd9bee6cc", func := "sentry/sentrylaw30.LookupSubjects", spec := "lookupSubjects", inPlace := ["internal/bytealg.abigen_runtime_cmpstring", "internal/abi.NoEscape"], unfollowed := true, recurses := true, loops := true, plainKeys := false, apart := false, narrowed := true }
def LookupSubjectsUptoSaid : Prop := lookupSubjectsUptoRow.holds Tryz.pinned (OpenSpec.upto lookupSubjectsSpec)

/-- 'sentrylaw30.LookupObjects', WHERE WHAT IT READS IS OF BULK AT MOST 1048576: true; the input reads as it did. -/
def lookupObjectsUptoRow : OpenClaim := { program := "ytlhaghoajpglaaagreat", sum := "81b53e3175b90a29632f8481542ed2929179430a072785bafda14e4fd9bee6cc", func := "sentry/sentrylaw30.LookupObjects", spec := "lookupObjects", inPlace := ["internal/bytealg.abigen_runtime_cmpstring", "internal/abi.NoEscape"], unfollowed := true, recurses := true, loops := true, plainKeys := false, apart := false, narrowed := true }
def LookupObjectsUptoSaid : Prop := lookupObjectsUptoRow.holds Tryz.pinned (OpenSpec.upto lookupObjectsSpec)

/-- 'sentrylaw30.LookupBoth', WHERE WHAT IT READS IS OF BULK AT MOST 1048576: true; the input reads as it did. -/
def lookupBothUptoRow : OpenClaim := { program := "ytlhaghoajpglaaagreat", sum := "81b53e3175b90a29632f8481542ed2929179430a072785bafda14e4fd9bee6cc", func := "sentry/sentrylaw30.LookupBoth", spec := "lookupBoth", inPlace := ["internal/bytealg.abigen_runtime_cmpstring", "internal/abi.NoEscape"], unfollowed := true, recurses := true, plainKeys := false, apart := false, narrowed := true }
def LookupBothUptoSaid : Prop := lookupBothUptoRow.holds Tryz.pinned (OpenSpec.upto lookupBothSpec)

/-- 'sentrylaw30.LookupSets', WHERE WHAT IT READS IS OF BULK AT MOST 1048576: true; the input reads as it did. -/
def lookupSetsUptoRow : OpenClaim := { program := "ytlhaghoajpglaaagreat", sum := "81b53e3175b90a29632f8481542ed2929179430a072785bafda14e4fd9bee6cc", func := "sentry/sentrylaw30.LookupSets", spec := "lookupSets", inPlace := ["internal/bytealg.abigen_runtime_cmpstring", "internal/abi.NoEscape"], unfollowed := true, recurses := true, loops := true, plainKeys := false, apart := false, narrowed := true }
def LookupSetsUptoSaid : Prop := lookupSetsUptoRow.holds Tryz.pinned (OpenSpec.upto lookupSetsSpec)

end Rows
end Go.Proofs.YtlhaghoajpglaaaGreat
