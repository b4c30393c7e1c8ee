/-
  NARROWER THAN 'FOR EVERY INPUT', by the rows' own cells (each row's printed sentence says how): RulesCheck: loops · RulesBarren: loops · RulesWrite: loops · RulesNeed: loops.
  DERIVED. THE GIVEN ROWS OF THIS SEAT. 5 by the template 'for every input the law returns true; each argument reads behind the call as it read before'; 0 by the template 'total and deterministic' (their statements: YtfhonficpccegaaTotals.lean).
  GIVEN WITH THE SEED: the statements are not yours to turn. If you find one false, say at which input.
  Laid BY PROGRAM, IN A SANDBOX (cutbox-rows.mjs): the forced cells as the released guide's own fill.sh prints them over the translation f6cb50a19d45b475… (all of the seat's roots in one cut). By AI agents, Wed Nov 11 2026. No macro, syntax, notation, axiom, sorry.
-/
import Derived.Test.YtfhonficpccegaaChecked
import GoSem.Claim
import GoSem.ClaimJoined
import GoSem.ClaimMapViews
import Derived.JoinedTies
import Derived.KernelRfl
namespace Go.Proofs.Ytfhonficpccegaa
/- THE CELL 'sum', in the pinned program and in every row, IS THE sha256 OF THE DUMP (.gsa) THAT YtfhonficpccegaaProg.lean LOADS. Nothing in Lean hashes anything: it is a label: what it is worth is what the hold of that sum in a sandbox is worth. -/
noncomputable def Try.pinned : Pinned := { name := "ytfhonficpccegaa", sum := "f6cb50a19d45b47565e14fdcfddcfa1e17691cf83b45b15fb5b7f32906ebd80a", checked := Try.checked }
namespace Rows
def none {H : Type} : Left H := { results := [], args := [] }

/-- 'sentrylaw06.RulesCheck': WHATEVER THE INPUT: true; the input reads as it did. -/
def rulesCheckSpec : ChangeSpec := { name := "rulesCheck", fn := fun _ => fun
  | [d] => { results := [.lit (.bool true)], args := [d] }
  | _ => none }
def rulesCheckRow : OpenClaim := { program := "ytfhonficpccegaa", sum := "f6cb50a19d45b47565e14fdcfddcfa1e17691cf83b45b15fb5b7f32906ebd80a", func := "sentry/sentrylaw06.RulesCheck", spec := "rulesCheck", inPlace := ["internal/abi.NoEscape"], unfollowed := true, recurses := true, loops := true, plainKeys := false, apart := false }
def RulesCheckSaid : Prop := rulesCheckRow.holds Try.pinned (OpenSpec.ofChange rulesCheckSpec)

/-- ITS FALSE NEIGHBOUR: 'it returns false'. Refute it at one input. -/
def rulesCheckWrong : ChangeSpec := { name := "rulesCheck", fn := fun _ => fun
  | [d] => { results := [.lit (.bool false)], args := [d] }
  | _ => none }
def RulesCheckWrongFalsely : Prop := rulesCheckRow.holds Try.pinned (OpenSpec.ofChange rulesCheckWrong)

/-- 'sentrylaw06.RulesBarren': WHATEVER THE INPUT: true; the input reads as it did. -/
def rulesBarrenSpec : ChangeSpec := { name := "rulesBarren", fn := fun _ => fun
  | [d] => { results := [.lit (.bool true)], args := [d] }
  | _ => none }
def rulesBarrenRow : OpenClaim := { program := "ytfhonficpccegaa", sum := "f6cb50a19d45b47565e14fdcfddcfa1e17691cf83b45b15fb5b7f32906ebd80a", func := "sentry/sentrylaw06.RulesBarren", spec := "rulesBarren", inPlace := ["internal/abi.NoEscape"], unfollowed := true, recurses := true, loops := true, plainKeys := false, apart := false }
def RulesBarrenSaid : Prop := rulesBarrenRow.holds Try.pinned (OpenSpec.ofChange rulesBarrenSpec)

/-- ITS FALSE NEIGHBOUR: 'it returns false'. Refute it at one input. -/
def rulesBarrenWrong : ChangeSpec := { name := "rulesBarren", fn := fun _ => fun
  | [d] => { results := [.lit (.bool false)], args := [d] }
  | _ => none }
def RulesBarrenWrongFalsely : Prop := rulesBarrenRow.holds Try.pinned (OpenSpec.ofChange rulesBarrenWrong)

/-- 'sentrylaw06.RulesWrite': WHATEVER THE INPUT: true; the input reads as it did. -/
def rulesWriteSpec : ChangeSpec := { name := "rulesWrite", fn := fun _ => fun
  | [d1, d2] => { results := [.lit (.bool true)], args := [d1, d2] }
  | _ => none }
def rulesWriteRow : OpenClaim := { program := "ytfhonficpccegaa", sum := "f6cb50a19d45b47565e14fdcfddcfa1e17691cf83b45b15fb5b7f32906ebd80a", func := "sentry/sentrylaw06.RulesWrite", spec := "rulesWrite", inPlace := ["internal/abi.NoEscape"], unfollowed := true, recurses := true, loops := true, plainKeys := false, apart := false }
def RulesWriteSaid : Prop := rulesWriteRow.holds Try.pinned (OpenSpec.ofChange rulesWriteSpec)

/-- ITS FALSE NEIGHBOUR: 'it returns false'. Refute it at one input. -/
def rulesWriteWrong : ChangeSpec := { name := "rulesWrite", fn := fun _ => fun
  | [d1, d2] => { results := [.lit (.bool false)], args := [d1, d2] }
  | _ => none }
def RulesWriteWrongFalsely : Prop := rulesWriteRow.holds Try.pinned (OpenSpec.ofChange rulesWriteWrong)

/-- 'sentrylaw06.RulesNeed': WHATEVER THE INPUT: true; the input reads as it did. -/
def rulesNeedSpec : ChangeSpec := { name := "rulesNeed", fn := fun _ => fun
  | [d1, d2] => { results := [.lit (.bool true)], args := [d1, d2] }
  | _ => none }
def rulesNeedRow : OpenClaim := { program := "ytfhonficpccegaa", sum := "f6cb50a19d45b47565e14fdcfddcfa1e17691cf83b45b15fb5b7f32906ebd80a", func := "sentry/sentrylaw06.RulesNeed", spec := "rulesNeed", inPlace := ["internal/abi.NoEscape"], unfollowed := true, recurses := true, loops := true, plainKeys := false, apart := false }
def RulesNeedSaid : Prop := rulesNeedRow.holds Try.pinned (OpenSpec.ofChange rulesNeedSpec)

/-- ITS FALSE NEIGHBOUR: 'it returns false'. Refute it at one input. -/
def rulesNeedWrong : ChangeSpec := { name := "rulesNeed", fn := fun _ => fun
  | [d1, d2] => { results := [.lit (.bool false)], args := [d1, d2] }
  | _ => none }
def RulesNeedWrongFalsely : Prop := rulesNeedRow.holds Try.pinned (OpenSpec.ofChange rulesNeedWrong)

/-- 'sentrylaw06.RulesClose': WHATEVER THE INPUT: true; the input reads as it did. -/
def rulesCloseSpec : ChangeSpec := { name := "rulesClose", fn := fun _ => fun
  | [d1, d2] => { results := [.lit (.bool true)], args := [d1, d2] }
  | _ => none }
def rulesCloseRow : OpenClaim := { program := "ytfhonficpccegaa", sum := "f6cb50a19d45b47565e14fdcfddcfa1e17691cf83b45b15fb5b7f32906ebd80a", func := "sentry/sentrylaw06.RulesClose", spec := "rulesClose", inPlace := ["internal/abi.NoEscape"], unfollowed := true, recurses := true, plainKeys := false, apart := false }
def RulesCloseSaid : Prop := rulesCloseRow.holds Try.pinned (OpenSpec.ofChange rulesCloseSpec)

/-- ITS FALSE NEIGHBOUR: 'it returns false'. Refute it at one input. -/
def rulesCloseWrong : ChangeSpec := { name := "rulesClose", fn := fun _ => fun
  | [d1, d2] => { results := [.lit (.bool false)], args := [d1, d2] }
  | _ => none }
def RulesCloseWrongFalsely : Prop := rulesCloseRow.holds Try.pinned (OpenSpec.ofChange rulesCloseWrong)

/- THE SECOND FORM. 'bulk': how many values and letters a reading holds, each counted each time it is reached (what is shared counts as often as it is met; a slice's spare places count too). A statement '..UptoSaid' is the law's where the arguments, and the package variables that the reading takes, are together of bulk at most 1048576: NARROWER than '..Said'. Prove '..Said' where nothing that the law and all that it calls make is longer than what came in: it says more and counts as full. Else prove '..UptoSaid'. A law counts once. -/
mutual
def uptoBulk {H : Type} : DataW H → Nat
  | .lit (.string bytes) => bytes.length + 1
  | .lit _ => 1
  | .nil => 1
  | .ptr d => uptoBulk d + 1
  | .slice elems spare => uptoBulkAll elems + uptoBulkAll spare + 1
  | .agg parts => uptoBulkAll parts + 1
  | .iface _ d => uptoBulk d + 1
  | .map entries => uptoBulkEntries entries + 1
  | .held _ => 1
def uptoBulkAll {H : Type} : List (DataW H) → Nat
  | [] => 0
  | d :: r => uptoBulk d + uptoBulkAll r
def uptoBulkEntries {H : Type} : List (Lit × DataW H) → Nat
  | [] => 0
  | x :: r => uptoBulkEntry x + uptoBulkEntries r
def uptoBulkEntry {H : Type} : Lit × DataW H → Nat
  | (.string bytes, d) => bytes.length + uptoBulk d + 1
  | (_, d) => uptoBulk d + 1
 end
def uptoSmall : (H : Type) → List (DataW H) → Bool := fun _ ds => decide (uptoBulkAll ds ≤ 1048576)
def OpenSpec.upto (s : _root_.Go.ChangeSpec) : _root_.Go.OpenSpec := { _root_.Go.OpenSpec.ofChange s with cond := some uptoSmall }

/-- 'sentrylaw06.RulesCheck', WHERE WHAT IT READS IS OF BULK AT MOST 1048576: true; the input reads as it did. -/
def rulesCheckUptoRow : OpenClaim := { program := "ytfhonficpccegaa", sum := "f6cb50a19d45b47565e14fdcfddcfa1e17691cf83b45b15fb5b7f32906ebd80a", func := "sentry/sentrylaw06.RulesCheck", spec := "rulesCheck", inPlace := ["internal/abi.NoEscape"], unfollowed := true, recurses := true, loops := true, plainKeys := false, apart := false, narrowed := true }
def RulesCheckUptoSaid : Prop := rulesCheckUptoRow.holds Try.pinned (OpenSpec.upto rulesCheckSpec)

/-- 'sentrylaw06.RulesBarren', WHERE WHAT IT READS IS OF BULK AT MOST 1048576: true; the input reads as it did. -/
def rulesBarrenUptoRow : OpenClaim := { program := "ytfhonficpccegaa", sum := "f6cb50a19d45b47565e14fdcfddcfa1e17691cf83b45b15fb5b7f32906ebd80a", func := "sentry/sentrylaw06.RulesBarren", spec := "rulesBarren", inPlace := ["internal/abi.NoEscape"], unfollowed := true, recurses := true, loops := true, plainKeys := false, apart := false, narrowed := true }
def RulesBarrenUptoSaid : Prop := rulesBarrenUptoRow.holds Try.pinned (OpenSpec.upto rulesBarrenSpec)

/-- 'sentrylaw06.RulesWrite', WHERE WHAT IT READS IS OF BULK AT MOST 1048576: true; the input reads as it did. -/
def rulesWriteUptoRow : OpenClaim := { program := "ytfhonficpccegaa", sum := "f6cb50a19d45b47565e14fdcfddcfa1e17691cf83b45b15fb5b7f32906ebd80a", func := "sentry/sentrylaw06.RulesWrite", spec := "rulesWrite", inPlace := ["internal/abi.NoEscape"], unfollowed := true, recurses := true, loops := true, plainKeys := false, apart := false, narrowed := true }
def RulesWriteUptoSaid : Prop := rulesWriteUptoRow.holds Try.pinned (OpenSpec.upto rulesWriteSpec)

/-- 'sentrylaw06.RulesNeed', WHERE WHAT IT READS IS OF BULK AT MOST 1048576: true; the input reads as it did. -/
def rulesNeedUptoRow : OpenClaim := { program := "ytfhonficpccegaa", sum := "f6cb50a19d45b47565e14fdcfddcfa1e17691cf83b45b15fb5b7f32906ebd80a", func := "sentry/sentrylaw06.RulesNeed", spec := "rulesNeed", inPlace := ["internal/abi.NoEscape"], unfollowed := true, recurses := true, loops := true, plainKeys := false, apart := false, narrowed := true }
def RulesNeedUptoSaid : Prop := rulesNeedUptoRow.holds Try.pinned (OpenSpec.upto rulesNeedSpec)

/-- 'sentrylaw06.RulesClose', WHERE WHAT IT READS IS OF BULK AT MOST 1048576: true; the input reads as it did. -/
def rulesCloseUptoRow : OpenClaim := { program := "ytfhonficpccegaa", sum := "f6cb50a19d45b47565e14fdcfddcfa1e17691cf83b45b15fb5b7f32906ebd80a", func := "sentry/sentrylaw06.RulesClose", spec := "rulesClose", inPlace := ["internal/abi.NoEscape"], unfollowed := true, recurses := true, plainKeys := false, apart := false, narrowed := true }
def RulesCloseUptoSaid : Prop := rulesCloseUptoRow.holds Try.pinned (OpenSpec.upto rulesCloseSpec)

end Rows
end Go.Proofs.Ytfhonficpccegaa
