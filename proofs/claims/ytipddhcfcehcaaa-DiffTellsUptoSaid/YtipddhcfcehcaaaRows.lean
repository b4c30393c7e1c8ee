/-
  NARROWER THAN 'FOR EVERY INPUT', by the rows' own cells (each row's printed sentence says how): DiffBreaks: loops · DiffTells: loops.
  DERIVED. THE GIVEN ROWS OF THIS SEAT. 4 by the template 'for every input the law returns true; each argument reads behind the call as it read before'; 0 by the template 'total and deterministic' (their statements: YtipddhcfcehcaaaTotals.lean).
  GIVEN WITH THE SEED: the statements are not yours to turn. If you find one false, say at which input.
  Laid BY PROGRAM, IN A SANDBOX (cutbox-rows.mjs): the forced cells as the released guide's own fill.sh prints them over the translation 811e4eb8add2bc16… (all of the seat's roots in one cut). By AI agents, Wed Nov 11 2026. No macro, syntax, notation, axiom, sorry.
-/
import Derived.Test.YtipddhcfcehcaaaChecked
import GoSem.Claim
import GoSem.ClaimJoined
import GoSem.ClaimMapViews
import Derived.JoinedTies
import Derived.KernelRfl
namespace Go.Proofs.Ytipddhcfcehcaaa
/- THE CELL 'sum', in the pinned program and in every row, IS THE sha256 OF THE DUMP (.gsa) THAT YtipddhcfcehcaaaProg.lean LOADS. Nothing in Lean hashes anything: it is a label: what it is worth is what the hold of that sum in a sandbox is worth. -/
noncomputable def Try.pinned : Pinned := { name := "ytipddhcfcehcaaa", sum := "811e4eb8add2bc16c05df5f020088881b7c8ed08971a0236add5d41024f4d24c", checked := Try.checked }
namespace Rows
def none {H : Type} : Left H := { results := [], args := [] }

/-- 'sentrylaw07.DiffBreaks': WHATEVER THE INPUT: true; the input reads as it did. -/
def diffBreaksSpec : ChangeSpec := { name := "diffBreaks", fn := fun _ => fun
  | [d1, d2, d3] => { results := [.lit (.bool true)], args := [d1, d2, d3] }
  | _ => none }
def diffBreaksRow : OpenClaim := { program := "ytipddhcfcehcaaa", sum := "811e4eb8add2bc16c05df5f020088881b7c8ed08971a0236add5d41024f4d24c", func := "sentry/sentrylaw07.DiffBreaks", spec := "diffBreaks", inPlace := ["internal/abi.NoEscape"], unfollowed := true, recurses := true, loops := true, plainKeys := false, apart := false }
def DiffBreaksSaid : Prop := diffBreaksRow.holds Try.pinned (OpenSpec.ofChange diffBreaksSpec)

/-- ITS FALSE NEIGHBOUR: 'it returns false'. Refute it at one input. -/
def diffBreaksWrong : ChangeSpec := { name := "diffBreaks", fn := fun _ => fun
  | [d1, d2, d3] => { results := [.lit (.bool false)], args := [d1, d2, d3] }
  | _ => none }
def DiffBreaksWrongFalsely : Prop := diffBreaksRow.holds Try.pinned (OpenSpec.ofChange diffBreaksWrong)

/-- 'sentrylaw07.DiffSame': WHATEVER THE INPUT: true; the input reads as it did. -/
def diffSameSpec : ChangeSpec := { name := "diffSame", fn := fun _ => fun
  | [d1, d2] => { results := [.lit (.bool true)], args := [d1, d2] }
  | _ => none }
def diffSameRow : OpenClaim := { program := "ytipddhcfcehcaaa", sum := "811e4eb8add2bc16c05df5f020088881b7c8ed08971a0236add5d41024f4d24c", func := "sentry/sentrylaw07.DiffSame", spec := "diffSame", inPlace := ["internal/abi.NoEscape"], unfollowed := true, recurses := true, plainKeys := false, apart := false }
def DiffSameSaid : Prop := diffSameRow.holds Try.pinned (OpenSpec.ofChange diffSameSpec)

/-- ITS FALSE NEIGHBOUR: 'it returns false'. Refute it at one input. -/
def diffSameWrong : ChangeSpec := { name := "diffSame", fn := fun _ => fun
  | [d1, d2] => { results := [.lit (.bool false)], args := [d1, d2] }
  | _ => none }
def DiffSameWrongFalsely : Prop := diffSameRow.holds Try.pinned (OpenSpec.ofChange diffSameWrong)

/-- 'sentrylaw07.DiffTells': WHATEVER THE INPUT: true; the input reads as it did. -/
def diffTellsSpec : ChangeSpec := { name := "diffTells", fn := fun _ => fun
  | [d1, d2] => { results := [.lit (.bool true)], args := [d1, d2] }
  | _ => none }
def diffTellsRow : OpenClaim := { program := "ytipddhcfcehcaaa", sum := "811e4eb8add2bc16c05df5f020088881b7c8ed08971a0236add5d41024f4d24c", func := "sentry/sentrylaw07.DiffTells", spec := "diffTells", inPlace := ["internal/abi.NoEscape"], unfollowed := true, recurses := true, loops := true, plainKeys := false, apart := false }
def DiffTellsSaid : Prop := diffTellsRow.holds Try.pinned (OpenSpec.ofChange diffTellsSpec)

/-- ITS FALSE NEIGHBOUR: 'it returns false'. Refute it at one input. -/
def diffTellsWrong : ChangeSpec := { name := "diffTells", fn := fun _ => fun
  | [d1, d2] => { results := [.lit (.bool false)], args := [d1, d2] }
  | _ => none }
def DiffTellsWrongFalsely : Prop := diffTellsRow.holds Try.pinned (OpenSpec.ofChange diffTellsWrong)

/-- 'sentrylaw07.DiffBecomes': WHATEVER THE INPUT: true; the input reads as it did. -/
def diffBecomesSpec : ChangeSpec := { name := "diffBecomes", fn := fun _ => fun
  | [d1, d2, d3] => { results := [.lit (.bool true)], args := [d1, d2, d3] }
  | _ => none }
def diffBecomesRow : OpenClaim := { program := "ytipddhcfcehcaaa", sum := "811e4eb8add2bc16c05df5f020088881b7c8ed08971a0236add5d41024f4d24c", func := "sentry/sentrylaw07.DiffBecomes", spec := "diffBecomes", inPlace := ["internal/abi.NoEscape"], unfollowed := true, recurses := true, plainKeys := false, apart := false }
def DiffBecomesSaid : Prop := diffBecomesRow.holds Try.pinned (OpenSpec.ofChange diffBecomesSpec)

/-- ITS FALSE NEIGHBOUR: 'it returns false'. Refute it at one input. -/
def diffBecomesWrong : ChangeSpec := { name := "diffBecomes", fn := fun _ => fun
  | [d1, d2, d3] => { results := [.lit (.bool false)], args := [d1, d2, d3] }
  | _ => none }
def DiffBecomesWrongFalsely : Prop := diffBecomesRow.holds Try.pinned (OpenSpec.ofChange diffBecomesWrong)

/- THE SECOND FORM. 'bulk': how many values and letters a reading holds, each counted each time it is reached (what is shared counts as often as it is met; a slice's spare places count too). A statement '..UptoSaid' is the law's where the arguments, and the package variables that the reading takes, are together of bulk at most 1048576: NARROWER than '..Said'. Prove '..Said' where nothing that the law and all that it calls make is longer than what came in: it says more and counts as full. Else prove '..UptoSaid'. A law counts once. -/
mutual
def uptoBulk {H : Type} : DataW H → Nat
  | .lit (.string bytes) => bytes.length + 1
  | .lit _ => 1
  | .nil => 1
  | .ptr d => uptoBulk d + 1
  | .slice elems spare => uptoBulkAll elems + uptoBulkAll spare + 1
  | .agg parts => uptoBulkAll parts + 1
  | .iface _ d => uptoBulk d + 1
  | .map entries => uptoBulkEntries entries + 1
  | .held _ => 1
def uptoBulkAll {H : Type} : List (DataW H) → Nat
  | [] => 0
  | d :: r => uptoBulk d + uptoBulkAll r
def uptoBulkEntries {H : Type} : List (Lit × DataW H) → Nat
  | [] => 0
  | x :: r => uptoBulkEntry x + uptoBulkEntries r
def uptoBulkEntry {H : Type} : Lit × DataW H → Nat
  | (.string bytes, d) => bytes.length + uptoBulk d + 1
  | (_, d) => uptoBulk d + 1
 end
def uptoSmall : (H : Type) → List (DataW H) → Bool := fun _ ds => decide (uptoBulkAll ds ≤ 1048576)
def OpenSpec.upto (s : _root_.Go.ChangeSpec) : _root_.Go.OpenSpec := { _root_.Go.OpenSpec.ofChange s with cond := some uptoSmall }

/-- 'sentrylaw07.DiffBreaks', WHERE WHAT IT READS IS OF BULK AT MOST 1048576: true; the input reads as it did. -/
def diffBreaksUptoRow : OpenClaim := { program := "ytipddhcfcehcaaa", sum := "811e4eb8add2bc16c05df5f020088881b7c8ed08971a0236add5d41024f4d24c", func := "sentry/sentrylaw07.DiffBreaks", spec := "diffBreaks", inPlace := ["internal/abi.NoEscape"], unfollowed := true, recurses := true, loops := true, plainKeys := false, apart := false, narrowed := true }
def DiffBreaksUptoSaid : Prop := diffBreaksUptoRow.holds Try.pinned (OpenSpec.upto diffBreaksSpec)

/-- 'sentrylaw07.DiffSame', WHERE WHAT IT READS IS OF BULK AT MOST 1048576: true; the input reads as it did. -/
def diffSameUptoRow : OpenClaim := { program := "ytipddhcfcehcaaa", sum := "811e4eb8add2bc16c05df5f020088881b7c8ed08971a0236add5d41024f4d24c", func := "sentry/sentrylaw07.DiffSame", spec := "diffSame", inPlace := ["internal/abi.NoEscape"], unfollowed := true, recurses := true, plainKeys := false, apart := false, narrowed := true }
def DiffSameUptoSaid : Prop := diffSameUptoRow.holds Try.pinned (OpenSpec.upto diffSameSpec)

/-- 'sentrylaw07.DiffTells', WHERE WHAT IT READS IS OF BULK AT MOST 1048576: true; the input reads as it did. -/
def diffTellsUptoRow : OpenClaim := { program := "ytipddhcfcehcaaa", sum := "811e4eb8add2bc16c05df5f020088881b7c8ed08971a0236add5d41024f4d24c", func := "sentry/sentrylaw07.DiffTells", spec := "diffTells", inPlace := ["internal/abi.NoEscape"], unfollowed := true, recurses := true, loops := true, plainKeys := false, apart := false, narrowed := true }
def DiffTellsUptoSaid : Prop := diffTellsUptoRow.holds Try.pinned (OpenSpec.upto diffTellsSpec)

/-- 'sentrylaw07.DiffBecomes', WHERE WHAT IT READS IS OF BULK AT MOST 1048576: true; the input reads as it did. -/
def diffBecomesUptoRow : OpenClaim := { program := "ytipddhcfcehcaaa", sum := "811e4eb8add2bc16c05df5f020088881b7c8ed08971a0236add5d41024f4d24c", func := "sentry/sentrylaw07.DiffBecomes", spec := "diffBecomes", inPlace := ["internal/abi.NoEscape"], unfollowed := true, recurses := true, plainKeys := false, apart := false, narrowed := true }
def DiffBecomesUptoSaid : Prop := diffBecomesUptoRow.holds Try.pinned (OpenSpec.upto diffBecomesSpec)

end Rows
end Go.Proofs.Ytipddhcfcehcaaa
