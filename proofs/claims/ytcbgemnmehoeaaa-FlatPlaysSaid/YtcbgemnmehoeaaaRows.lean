/-
  No cell of these rows narrows 'for every input' (looked for: loops, veiled, ifaces, maps, wideKeys, modest, calm, conditions, laid).
  DERIVED. THE GIVEN ROWS OF THIS SEAT. 4 by the template 'for every input the law returns true; each argument reads behind the call as it read before'; 0 by the template 'total and deterministic' (their statements: YtcbgemnmehoeaaaTotals.lean).
  GIVEN WITH THE SEED: the statements are not yours to turn. If you find one false, say at which input.
  Laid BY PROGRAM, IN A SANDBOX (cutbox-rows.mjs): the forced cells as the released guide's own fill.sh prints them over the translation e2a58c82b8f4d226… (all of the seat's roots in one cut). By AI agents, Wed Nov 11 2026. No macro, syntax, notation, axiom, sorry.
-/
import Derived.Test.YtcbgemnmehoeaaaChecked
import GoSem.Claim
import GoSem.ClaimJoined
import GoSem.ClaimMapViews
import Derived.JoinedTies
import Derived.KernelRfl
namespace Go.Proofs.Ytcbgemnmehoeaaa
/- THE CELL 'sum', in the pinned program and in every row, IS THE sha256 OF THE DUMP (.gsa) THAT YtcbgemnmehoeaaaProg.lean LOADS. Nothing in Lean hashes anything: it is a label: what it is worth is what the hold of that sum in a sandbox is worth. -/
noncomputable def Try.pinned : Pinned := { name := "ytcbgemnmehoeaaa", sum := "e2a58c82b8f4d226cde5405d2b89b590815a864cd04dfd1603d539257865871b", checked := Try.checked }
namespace Rows
def none {H : Type} : Left H := { results := [], args := [] }

/-- 'sentrylaw31.FlatSteps': WHATEVER THE INPUT: true; the input reads as it did. -/
def flatStepsSpec : ChangeSpec := { name := "flatSteps", fn := fun _ => fun
  | [d] => { results := [.lit (.bool true)], args := [d] }
  | _ => none }
def flatStepsRow : OpenClaim := { program := "ytcbgemnmehoeaaa", sum := "e2a58c82b8f4d226cde5405d2b89b590815a864cd04dfd1603d539257865871b", func := "sentry/sentrylaw31.FlatSteps", spec := "flatSteps", unfollowed := true, recurses := true, plainKeys := false, apart := false }
def FlatStepsSaid : Prop := flatStepsRow.holds Try.pinned (OpenSpec.ofChange flatStepsSpec)

/-- ITS FALSE NEIGHBOUR: 'it returns false'. Refute it at one input. -/
def flatStepsWrong : ChangeSpec := { name := "flatSteps", fn := fun _ => fun
  | [d] => { results := [.lit (.bool false)], args := [d] }
  | _ => none }
def FlatStepsWrongFalsely : Prop := flatStepsRow.holds Try.pinned (OpenSpec.ofChange flatStepsWrong)

/-- 'sentrylaw31.FlatPlays': WHATEVER THE INPUT: true; the input reads as it did. -/
def flatPlaysSpec : ChangeSpec := { name := "flatPlays", fn := fun _ => fun
  | [d] => { results := [.lit (.bool true)], args := [d] }
  | _ => none }
def flatPlaysRow : OpenClaim := { program := "ytcbgemnmehoeaaa", sum := "e2a58c82b8f4d226cde5405d2b89b590815a864cd04dfd1603d539257865871b", func := "sentry/sentrylaw31.FlatPlays", spec := "flatPlays", unfollowed := true, recurses := true, plainKeys := false, apart := false }
def FlatPlaysSaid : Prop := flatPlaysRow.holds Try.pinned (OpenSpec.ofChange flatPlaysSpec)

/-- ITS FALSE NEIGHBOUR: 'it returns false'. Refute it at one input. -/
def flatPlaysWrong : ChangeSpec := { name := "flatPlays", fn := fun _ => fun
  | [d] => { results := [.lit (.bool false)], args := [d] }
  | _ => none }
def FlatPlaysWrongFalsely : Prop := flatPlaysRow.holds Try.pinned (OpenSpec.ofChange flatPlaysWrong)

/-- 'sentrylaw31.FlatOrder': WHATEVER THE INPUT: true; the input reads as it did. -/
def flatOrderSpec : ChangeSpec := { name := "flatOrder", fn := fun _ => fun
  | [d1, d2] => { results := [.lit (.bool true)], args := [d1, d2] }
  | _ => none }
def flatOrderRow : OpenClaim := { program := "ytcbgemnmehoeaaa", sum := "e2a58c82b8f4d226cde5405d2b89b590815a864cd04dfd1603d539257865871b", func := "sentry/sentrylaw31.FlatOrder", spec := "flatOrder", unfollowed := true, recurses := true, plainKeys := false, apart := false }
def FlatOrderSaid : Prop := flatOrderRow.holds Try.pinned (OpenSpec.ofChange flatOrderSpec)

/-- ITS FALSE NEIGHBOUR: 'it returns false'. Refute it at one input. -/
def flatOrderWrong : ChangeSpec := { name := "flatOrder", fn := fun _ => fun
  | [d1, d2] => { results := [.lit (.bool false)], args := [d1, d2] }
  | _ => none }
def FlatOrderWrongFalsely : Prop := flatOrderRow.holds Try.pinned (OpenSpec.ofChange flatOrderWrong)

/-- 'sentrylaw31.FlatNil': WHATEVER THE INPUT: true; the input reads as it did. -/
def flatNilSpec : ChangeSpec := { name := "flatNil", fn := fun _ => fun
  | [d] => { results := [.lit (.bool true)], args := [d] }
  | _ => none }
def flatNilRow : OpenClaim := { program := "ytcbgemnmehoeaaa", sum := "e2a58c82b8f4d226cde5405d2b89b590815a864cd04dfd1603d539257865871b", func := "sentry/sentrylaw31.FlatNil", spec := "flatNil", unfollowed := true, recurses := true, plainKeys := false, apart := false }
def FlatNilSaid : Prop := flatNilRow.holds Try.pinned (OpenSpec.ofChange flatNilSpec)

/-- ITS FALSE NEIGHBOUR: 'it returns false'. Refute it at one input. -/
def flatNilWrong : ChangeSpec := { name := "flatNil", fn := fun _ => fun
  | [d] => { results := [.lit (.bool false)], args := [d] }
  | _ => none }
def FlatNilWrongFalsely : Prop := flatNilRow.holds Try.pinned (OpenSpec.ofChange flatNilWrong)

/- THE SECOND FORM. 'bulk': how many values and letters a reading holds, each counted each time it is reached (what is shared counts as often as it is met; a slice's spare places count too). A statement '..UptoSaid' is the law's where the arguments, and the package variables that the reading takes, are together of bulk at most 1048576: NARROWER than '..Said'. Prove '..Said' where nothing that the law and all that it calls make is longer than what came in: it says more and counts as full. Else prove '..UptoSaid'. A law counts once. -/
mutual
def uptoBulk {H : Type} : DataW H → Nat
  | .lit (.string bytes) => bytes.length + 1
  | .lit _ => 1
  | .nil => 1
  | .ptr d => uptoBulk d + 1
  | .slice elems spare => uptoBulkAll elems + uptoBulkAll spare + 1
  | .agg parts => uptoBulkAll parts + 1
  | .iface _ d => uptoBulk d + 1
  | .map entries => uptoBulkEntries entries + 1
  | .held _ => 1
def uptoBulkAll {H : Type} : List (DataW H) → Nat
  | [] => 0
  | d :: r => uptoBulk d + uptoBulkAll r
def uptoBulkEntries {H : Type} : List (Lit × DataW H) → Nat
  | [] => 0
  | x :: r => uptoBulkEntry x + uptoBulkEntries r
def uptoBulkEntry {H : Type} : Lit × DataW H → Nat
  | (.string bytes, d) => bytes.length + uptoBulk d + 1
  | (_, d) => uptoBulk d + 1
 end
def uptoSmall : (H : Type) → List (DataW H) → Bool := fun _ ds => decide (uptoBulkAll ds ≤ 1048576)
def OpenSpec.upto (s : _root_.Go.ChangeSpec) : _root_.Go.OpenSpec := { _root_.Go.OpenSpec.ofChange s with cond := some uptoSmall }

/-- 'sentrylaw31.FlatSteps', WHERE WHAT IT READS IS OF BULK AT MOST 1048576: true; the input reads as it did. -/
def flatStepsUptoRow : OpenClaim := { program := "ytcbgemnmehoeaaa", sum := "e2a58c82b8f4d226cde5405d2b89b590815a864cd04dfd1603d539257865871b", func := "sentry/sentrylaw31.FlatSteps", spec := "flatSteps", unfollowed := true, recurses := true, plainKeys := false, apart := false, narrowed := true }
def FlatStepsUptoSaid : Prop := flatStepsUptoRow.holds Try.pinned (OpenSpec.upto flatStepsSpec)

/-- 'sentrylaw31.FlatPlays', WHERE WHAT IT READS IS OF BULK AT MOST 1048576: true; the input reads as it did. -/
def flatPlaysUptoRow : OpenClaim := { program := "ytcbgemnmehoeaaa", sum := "e2a58c82b8f4d226cde5405d2b89b590815a864cd04dfd1603d539257865871b", func := "sentry/sentrylaw31.FlatPlays", spec := "flatPlays", unfollowed := true, recurses := true, plainKeys := false, apart := false, narrowed := true }
def FlatPlaysUptoSaid : Prop := flatPlaysUptoRow.holds Try.pinned (OpenSpec.upto flatPlaysSpec)

/-- 'sentrylaw31.FlatOrder', WHERE WHAT IT READS IS OF BULK AT MOST 1048576: true; the input reads as it did. -/
def flatOrderUptoRow : OpenClaim := { program := "ytcbgemnmehoeaaa", sum := "e2a58c82b8f4d226cde5405d2b89b590815a864cd04dfd1603d539257865871b", func := "sentry/sentrylaw31.FlatOrder", spec := "flatOrder", unfollowed := true, recurses := true, plainKeys := false, apart := false, narrowed := true }
def FlatOrderUptoSaid : Prop := flatOrderUptoRow.holds Try.pinned (OpenSpec.upto flatOrderSpec)

/-- 'sentrylaw31.FlatNil', WHERE WHAT IT READS IS OF BULK AT MOST 1048576: true; the input reads as it did. -/
def flatNilUptoRow : OpenClaim := { program := "ytcbgemnmehoeaaa", sum := "e2a58c82b8f4d226cde5405d2b89b590815a864cd04dfd1603d539257865871b", func := "sentry/sentrylaw31.FlatNil", spec := "flatNil", unfollowed := true, recurses := true, plainKeys := false, apart := false, narrowed := true }
def FlatNilUptoSaid : Prop := flatNilUptoRow.holds Try.pinned (OpenSpec.upto flatNilSpec)

end Rows
end Go.Proofs.Ytcbgemnmehoeaaa
