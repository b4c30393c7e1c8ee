/-
  NARROWER THAN 'FOR EVERY INPUT', by the rows' own cells (each row's printed sentence says how): ReachWalks: loops · ExpandTrees: loops · ExpandTells: loops · CheckHas: loops · CheckSolves: loops.
  DERIVED. THE GIVEN ROWS OF THIS SEAT. 9 by the template 'for every input the law returns true; each argument reads behind the call as it read before'; 0 by the template 'total and deterministic' (their statements: YtjdigpfipmckhaaGreatTotals.lean).
  GIVEN WITH THE SEED: the statements are not yours to turn. If you find one false, say at which input.
  Laid BY PROGRAM, IN A SANDBOX (cutbox-rows.mjs): the forced cells as the released guide's own fill.sh prints them over the translation e36a42030ee26ed2… (all of the seat's roots in one cut). By AI agents, Wed Nov 11 2026. No macro, syntax, notation, axiom, sorry.
-/
import Derived.Test.YtjdigpfipmckhaaGreatChecked
import GoSem.Claim
import GoSem.ClaimJoined
import GoSem.ClaimMapViews
import Derived.JoinedTies
import Derived.KernelRfl
namespace Go.Proofs.YtjdigpfipmckhaaGreat
/- THE CELL 'sum', in the pinned program and in every row, IS THE sha256 OF THE DUMP (.gsa) THAT YtjdigpfipmckhaaGreatProg.lean LOADS. Nothing in Lean hashes anything: it is a label: what it is worth is what the hold of that sum in a sandbox is worth. -/
noncomputable def Tryz.pinned : Pinned := { name := "ytjdigpfipmckhaagreat", sum := "e36a42030ee26ed24aa6f69ee136fe424fcea2c3744fb34b32b2c03021b82fae", checked := Tryz.checked }
namespace Rows
def none {H : Type} : Left H := { results := [], args := [] }

/-- 'sentrylaw26.ReachWalks': WHATEVER THE INPUT: true; the input reads as it did. -/
def reachWalksSpec : ChangeSpec := { name := "reachWalks", fn := fun _ => fun
  | [d1, d2, d3, d4, d5] => { results := [.lit (.bool true)], args := [d1, d2, d3, d4, d5] }
  | _ => none }
def reachWalksRow : OpenClaim := { program := "ytjdigpfipmckhaagreat", sum := "e36a42030ee26ed24aa6f69ee136fe424fcea2c3744fb34b32b2c03021b82fae", func := "sentry/sentrylaw26.ReachWalks", spec := "reachWalks", inPlace := ["internal/bytealg.abigen_runtime_cmpstring", "internal/abi.NoEscape"], unfollowed := true, recurses := true, loops := true, plainKeys := false, apart := false }
def ReachWalksSaid : Prop := reachWalksRow.holds Tryz.pinned (OpenSpec.ofChange reachWalksSpec)

/-- ITS FALSE NEIGHBOUR: 'it returns false'. Refute it at one input. -/
def reachWalksWrong : ChangeSpec := { name := "reachWalks", fn := fun _ => fun
  | [d1, d2, d3, d4, d5] => { results := [.lit (.bool false)], args := [d1, d2, d3, d4, d5] }
  | _ => none }
def ReachWalksWrongFalsely : Prop := reachWalksRow.holds Tryz.pinned (OpenSpec.ofChange reachWalksWrong)

/-- 'sentrylaw28.ExpandTrees': WHATEVER THE INPUT: true; the input reads as it did. -/
def expandTreesSpec : ChangeSpec := { name := "expandTrees", fn := fun _ => fun
  | [d1, d2, d3, d4, d5, d6] => { results := [.lit (.bool true)], args := [d1, d2, d3, d4, d5, d6] }
  | _ => none }
def expandTreesRow : OpenClaim := { program := "ytjdigpfipmckhaagreat", sum := "e36a42030ee26ed24aa6f69ee136fe424fcea2c3744fb34b32b2c03021b82fae", func := "sentry/sentrylaw28.ExpandTrees", spec := "expandTrees", inPlace := ["internal/bytealg.abigen_runtime_cmpstring", "internal/abi.NoEscape"], unfollowed := true, recurses := true, loops := true, plainKeys := false, apart := false }
def ExpandTreesSaid : Prop := expandTreesRow.holds Tryz.pinned (OpenSpec.ofChange expandTreesSpec)

/-- ITS FALSE NEIGHBOUR: 'it returns false'. Refute it at one input. -/
def expandTreesWrong : ChangeSpec := { name := "expandTrees", fn := fun _ => fun
  | [d1, d2, d3, d4, d5, d6] => { results := [.lit (.bool false)], args := [d1, d2, d3, d4, d5, d6] }
  | _ => none }
def ExpandTreesWrongFalsely : Prop := expandTreesRow.holds Tryz.pinned (OpenSpec.ofChange expandTreesWrong)

/-- 'sentrylaw28.ExpandMeans': WHATEVER THE INPUT: true; the input reads as it did. -/
def expandMeansSpec : ChangeSpec := { name := "expandMeans", fn := fun _ => fun
  | [d1, d2] => { results := [.lit (.bool true)], args := [d1, d2] }
  | _ => none }
def expandMeansRow : OpenClaim := { program := "ytjdigpfipmckhaagreat", sum := "e36a42030ee26ed24aa6f69ee136fe424fcea2c3744fb34b32b2c03021b82fae", func := "sentry/sentrylaw28.ExpandMeans", spec := "expandMeans", inPlace := ["internal/bytealg.abigen_runtime_cmpstring", "internal/abi.NoEscape"], unfollowed := true, recurses := true, plainKeys := false, apart := false }
def ExpandMeansSaid : Prop := expandMeansRow.holds Tryz.pinned (OpenSpec.ofChange expandMeansSpec)

/-- ITS FALSE NEIGHBOUR: 'it returns false'. Refute it at one input. -/
def expandMeansWrong : ChangeSpec := { name := "expandMeans", fn := fun _ => fun
  | [d1, d2] => { results := [.lit (.bool false)], args := [d1, d2] }
  | _ => none }
def ExpandMeansWrongFalsely : Prop := expandMeansRow.holds Tryz.pinned (OpenSpec.ofChange expandMeansWrong)

/-- 'sentrylaw28.ExpandTells': WHATEVER THE INPUT: true; the input reads as it did. -/
def expandTellsSpec : ChangeSpec := { name := "expandTells", fn := fun _ => fun
  | [d] => { results := [.lit (.bool true)], args := [d] }
  | _ => none }
def expandTellsRow : OpenClaim := { program := "ytjdigpfipmckhaagreat", sum := "e36a42030ee26ed24aa6f69ee136fe424fcea2c3744fb34b32b2c03021b82fae", func := "sentry/sentrylaw28.ExpandTells", spec := "expandTells", inPlace := ["internal/bytealg.abigen_runtime_cmpstring", "internal/abi.NoEscape"], unfollowed := true, recurses := true, loops := true, plainKeys := false, apart := false }
def ExpandTellsSaid : Prop := expandTellsRow.holds Tryz.pinned (OpenSpec.ofChange expandTellsSpec)

/-- ITS FALSE NEIGHBOUR: 'it returns false'. Refute it at one input. -/
def expandTellsWrong : ChangeSpec := { name := "expandTells", fn := fun _ => fun
  | [d] => { results := [.lit (.bool false)], args := [d] }
  | _ => none }
def ExpandTellsWrongFalsely : Prop := expandTellsRow.holds Tryz.pinned (OpenSpec.ofChange expandTellsWrong)

/-- 'sentrylaw28.ExpandDeeper': WHATEVER THE INPUT: true; the input reads as it did. -/
def expandDeeperSpec : ChangeSpec := { name := "expandDeeper", fn := fun _ => fun
  | [d1, d2, d3] => { results := [.lit (.bool true)], args := [d1, d2, d3] }
  | _ => none }
def expandDeeperRow : OpenClaim := { program := "ytjdigpfipmckhaagreat", sum := "e36a42030ee26ed24aa6f69ee136fe424fcea2c3744fb34b32b2c03021b82fae", func := "sentry/sentrylaw28.ExpandDeeper", spec := "expandDeeper", inPlace := ["internal/bytealg.abigen_runtime_cmpstring", "internal/abi.NoEscape"], unfollowed := true, recurses := true, plainKeys := false, apart := false }
def ExpandDeeperSaid : Prop := expandDeeperRow.holds Tryz.pinned (OpenSpec.ofChange expandDeeperSpec)

/-- ITS FALSE NEIGHBOUR: 'it returns false'. Refute it at one input. -/
def expandDeeperWrong : ChangeSpec := { name := "expandDeeper", fn := fun _ => fun
  | [d1, d2, d3] => { results := [.lit (.bool false)], args := [d1, d2, d3] }
  | _ => none }
def ExpandDeeperWrongFalsely : Prop := expandDeeperRow.holds Tryz.pinned (OpenSpec.ofChange expandDeeperWrong)

/-- 'sentrylaw27.CheckHas': WHATEVER THE INPUT: true; the input reads as it did. -/
def checkHasSpec : ChangeSpec := { name := "checkHas", fn := fun _ => fun
  | [d1, d2, d3, d4, d5] => { results := [.lit (.bool true)], args := [d1, d2, d3, d4, d5] }
  | _ => none }
def checkHasRow : OpenClaim := { program := "ytjdigpfipmckhaagreat", sum := "e36a42030ee26ed24aa6f69ee136fe424fcea2c3744fb34b32b2c03021b82fae", func := "sentry/sentrylaw27.CheckHas", spec := "checkHas", inPlace := ["internal/bytealg.abigen_runtime_cmpstring", "internal/abi.NoEscape"], unfollowed := true, recurses := true, loops := true, plainKeys := false, apart := false }
def CheckHasSaid : Prop := checkHasRow.holds Tryz.pinned (OpenSpec.ofChange checkHasSpec)

/-- ITS FALSE NEIGHBOUR: 'it returns false'. Refute it at one input. -/
def checkHasWrong : ChangeSpec := { name := "checkHas", fn := fun _ => fun
  | [d1, d2, d3, d4, d5] => { results := [.lit (.bool false)], args := [d1, d2, d3, d4, d5] }
  | _ => none }
def CheckHasWrongFalsely : Prop := checkHasRow.holds Tryz.pinned (OpenSpec.ofChange checkHasWrong)

/-- 'sentrylaw27.CheckSolves': WHATEVER THE INPUT: true; the input reads as it did. -/
def checkSolvesSpec : ChangeSpec := { name := "checkSolves", fn := fun _ => fun
  | [d1, d2, d3] => { results := [.lit (.bool true)], args := [d1, d2, d3] }
  | _ => none }
def checkSolvesRow : OpenClaim := { program := "ytjdigpfipmckhaagreat", sum := "e36a42030ee26ed24aa6f69ee136fe424fcea2c3744fb34b32b2c03021b82fae", func := "sentry/sentrylaw27.CheckSolves", spec := "checkSolves", inPlace := ["internal/bytealg.abigen_runtime_cmpstring", "internal/abi.NoEscape"], unfollowed := true, recurses := true, loops := true, plainKeys := false, apart := false }
def CheckSolvesSaid : Prop := checkSolvesRow.holds Tryz.pinned (OpenSpec.ofChange checkSolvesSpec)

/-- ITS FALSE NEIGHBOUR: 'it returns false'. Refute it at one input. -/
def checkSolvesWrong : ChangeSpec := { name := "checkSolves", fn := fun _ => fun
  | [d1, d2, d3] => { results := [.lit (.bool false)], args := [d1, d2, d3] }
  | _ => none }
def CheckSolvesWrongFalsely : Prop := checkSolvesRow.holds Tryz.pinned (OpenSpec.ofChange checkSolvesWrong)

/-- 'sentrylaw27.CheckMore': WHATEVER THE INPUT: true; the input reads as it did. -/
def checkMoreSpec : ChangeSpec := { name := "checkMore", fn := fun _ => fun
  | [d1, d2, d3] => { results := [.lit (.bool true)], args := [d1, d2, d3] }
  | _ => none }
def checkMoreRow : OpenClaim := { program := "ytjdigpfipmckhaagreat", sum := "e36a42030ee26ed24aa6f69ee136fe424fcea2c3744fb34b32b2c03021b82fae", func := "sentry/sentrylaw27.CheckMore", spec := "checkMore", inPlace := ["internal/bytealg.abigen_runtime_cmpstring", "internal/abi.NoEscape"], unfollowed := true, recurses := true, plainKeys := false, apart := false }
def CheckMoreSaid : Prop := checkMoreRow.holds Tryz.pinned (OpenSpec.ofChange checkMoreSpec)

/-- ITS FALSE NEIGHBOUR: 'it returns false'. Refute it at one input. -/
def checkMoreWrong : ChangeSpec := { name := "checkMore", fn := fun _ => fun
  | [d1, d2, d3] => { results := [.lit (.bool false)], args := [d1, d2, d3] }
  | _ => none }
def CheckMoreWrongFalsely : Prop := checkMoreRow.holds Tryz.pinned (OpenSpec.ofChange checkMoreWrong)

/-- 'sentrylaw27.CheckSaid': WHATEVER THE INPUT: true; the input reads as it did. -/
def checkSaidSpec : ChangeSpec := { name := "checkSaid", fn := fun _ => fun
  | [d1, d2] => { results := [.lit (.bool true)], args := [d1, d2] }
  | _ => none }
def checkSaidRow : OpenClaim := { program := "ytjdigpfipmckhaagreat", sum := "e36a42030ee26ed24aa6f69ee136fe424fcea2c3744fb34b32b2c03021b82fae", func := "sentry/sentrylaw27.CheckSaid", spec := "checkSaid", inPlace := ["internal/bytealg.abigen_runtime_cmpstring", "internal/abi.NoEscape"], unfollowed := true, recurses := true, plainKeys := false, apart := false }
def CheckSaidSaid : Prop := checkSaidRow.holds Tryz.pinned (OpenSpec.ofChange checkSaidSpec)

/-- ITS FALSE NEIGHBOUR: 'it returns false'. Refute it at one input. -/
def checkSaidWrong : ChangeSpec := { name := "checkSaid", fn := fun _ => fun
  | [d1, d2] => { results := [.lit (.bool false)], args := [d1, d2] }
  | _ => none }
def CheckSaidWrongFalsely : Prop := checkSaidRow.holds Tryz.pinned (OpenSpec.ofChange checkSaidWrong)

/- THE SECOND FORM. 'bulk': how many values and letters a reading holds, each counted each time it is reached (what is shared counts as often as it is met; a slice's spare places count too). A statement '..UptoSaid' is the law's where the arguments, and the package variables that the reading takes, are together of bulk at most 1048576: NARROWER than '..Said'. Prove '..Said' where nothing that the law and all that it calls make is longer than what came in: it says more and counts as full. Else prove '..UptoSaid'. A law counts once. -/
mutual
def uptoBulk {H : Type} : DataW H → Nat
  | .lit (.string bytes) => bytes.length + 1
  | .lit _ => 1
  | .nil => 1
  | .ptr d => uptoBulk d + 1
  | .slice elems spare => uptoBulkAll elems + uptoBulkAll spare + 1
  | .agg parts => uptoBulkAll parts + 1
  | .iface _ d => uptoBulk d + 1
  | .map entries => uptoBulkEntries entries + 1
  | .held _ => 1
def uptoBulkAll {H : Type} : List (DataW H) → Nat
  | [] => 0
  | d :: r => uptoBulk d + uptoBulkAll r
def uptoBulkEntries {H : Type} : List (Lit × DataW H) → Nat
  | [] => 0
  | x :: r => uptoBulkEntry x + uptoBulkEntries r
def uptoBulkEntry {H : Type} : Lit × DataW H → Nat
  | (.string bytes, d) => bytes.length + uptoBulk d + 1
  | (_, d) => uptoBulk d + 1
 end
def uptoSmall : (H : Type) → List (DataW H) → Bool := fun _ ds => decide (uptoBulkAll ds ≤ 1048576)
def OpenSpec.upto (s : _root_.Go.ChangeSpec) : _root_.Go.OpenSpec := { _root_.Go.OpenSpec.ofChange s with cond := some uptoSmall }

/-- 'sentrylaw26.ReachWalks', WHERE WHAT IT READS IS OF BULK AT MOST 1048576: true; the input reads as it did. -/
def reachWalksUptoRow : OpenClaim := { program := "ytjdigpfipmckhaagreat", sum := "e36a42030ee26ed24aa6f69ee136fe424fcea2c3744fb34b32b2c03021b82fae", func := "sentry/sentrylaw26.ReachWalks", spec := "reachWalks", inPlace := ["internal/bytealg.abigen_runtime_cmpstring", "internal/abi.NoEscape"], unfollowed := true, recurses := true, loops := true, plainKeys := false, apart := false, narrowed := true }
def ReachWalksUptoSaid : Prop := reachWalksUptoRow.holds Tryz.pinned (OpenSpec.upto reachWalksSpec)

/-- 'sentrylaw28.ExpandTrees', WHERE WHAT IT READS IS OF BULK AT MOST 1048576: true; the input reads as it did. -/
def expandTreesUptoRow : OpenClaim := { program := "ytjdigpfipmckhaagreat", sum := "e36a42030ee26ed24aa6f69ee136fe424fcea2c3744fb34b32b2c03021b82fae", func := "sentry/sentrylaw28.ExpandTrees", spec := "expandTrees", inPlace := ["internal/bytealg.abigen_runtime_cmpstring", "internal/abi.NoEscape"], unfollowed := true, recurses := true, loops := true, plainKeys := false, apart := false, narrowed := true }
def ExpandTreesUptoSaid : Prop := expandTreesUptoRow.holds Tryz.pinned (OpenSpec.upto expandTreesSpec)

/-- 'sentrylaw28.ExpandMeans', WHERE WHAT IT READS IS OF BULK AT MOST 1048576: true; the input reads as it did. -/
def expandMeansUptoRow : OpenClaim := { program := "ytjdigpfipmckhaagreat", sum := "e36a42030ee26ed24aa6f69ee136fe424fcea2c3744fb34b32b2c03021b82fae", func := "sentry/sentrylaw28.ExpandMeans", spec := "expandMeans", inPlace := ["internal/bytealg.abigen_runtime_cmpstring", "internal/abi.NoEscape"], unfollowed := true, recurses := true, plainKeys := false, apart := false, narrowed := true }
def ExpandMeansUptoSaid : Prop := expandMeansUptoRow.holds Tryz.pinned (OpenSpec.upto expandMeansSpec)

/-- 'sentrylaw28.ExpandTells', WHERE WHAT IT READS IS OF BULK AT MOST 1048576: true; the input reads as it did. -/
def expandTellsUptoRow : OpenClaim := { program := "ytjdigpfipmckhaagreat", sum := "e36a42030ee26ed24aa6f69ee136fe424fcea2c3744fb34b32b2c03021b82fae", func := "sentry/sentrylaw28.ExpandTells", spec := "expandTells", inPlace := ["internal/bytealg.abigen_runtime_cmpstring", "internal/abi.NoEscape"], unfollowed := true, recurses := true, loops := true, plainKeys := false, apart := false, narrowed := true }
def ExpandTellsUptoSaid : Prop := expandTellsUptoRow.holds Tryz.pinned (OpenSpec.upto expandTellsSpec)

/-- 'sentrylaw28.ExpandDeeper', WHERE WHAT IT READS IS OF BULK AT MOST 1048576: true; the input reads as it did. -/
def expandDeeperUptoRow : OpenClaim := { program := "ytjdigpfipmckhaagreat", sum := "e36a42030ee26ed24aa6f69ee136fe424fcea2c3744fb34b32b2c03021b82fae", func := "sentry/sentrylaw28.ExpandDeeper", spec := "expandDeeper", inPlace := ["internal/bytealg.abigen_runtime_cmpstring", "internal/abi.NoEscape"], unfollowed := true, recurses := true, plainKeys := false, apart := false, narrowed := true }
def ExpandDeeperUptoSaid : Prop := expandDeeperUptoRow.holds Tryz.pinned (OpenSpec.upto expandDeeperSpec)

/-- 'sentrylaw27.CheckHas', WHERE WHAT IT READS IS OF BULK AT MOST 1048576: true; the input reads as it did. -/
def checkHasUptoRow : OpenClaim := { program := "ytjdigpfipmckhaagreat", sum := "e36a42030ee26ed24aa6f69ee136fe424fcea2c3744fb34b32b2c03021b82fae", func := "sentry/sentrylaw27.CheckHas", spec := "checkHas", inPlace := ["internal/bytealg.abigen_runtime_cmpstring", "internal/abi.NoEscape"], unfollowed := true, recurses := true, loops := true, plainKeys := false, apart := false, narrowed := true }
def CheckHasUptoSaid : Prop := checkHasUptoRow.holds Tryz.pinned (OpenSpec.upto checkHasSpec)

/-- 'sentrylaw27.CheckSolves', WHERE WHAT IT READS IS OF BULK AT MOST 1048576: true; the input reads as it did. -/
def checkSolvesUptoRow : OpenClaim := { program := "ytjdigpfipmckhaagreat", sum := "e36a42030ee26ed24aa6f69ee136fe424fcea2c3744fb34b32b2c03021b82fae", func := "sentry/sentrylaw27.CheckSolves", spec := "checkSolves", inPlace := ["internal/bytealg.abigen_runtime_cmpstring", "internal/abi.NoEscape"], unfollowed := true, recurses := true, loops := true, plainKeys := false, apart := false, narrowed := true }
def CheckSolvesUptoSaid : Prop := checkSolvesUptoRow.holds Tryz.pinned (OpenSpec.upto checkSolvesSpec)

/-- 'sentrylaw27.CheckMore', WHERE WHAT IT READS IS OF BULK AT MOST 1048576: true; the input reads as it did. -/
def checkMoreUptoRow : OpenClaim := { program := "ytjdigpfipmckhaagreat", sum := "e36a42030ee26ed24aa6f69ee136fe424fcea2c3744fb34b32b2c03021b82fae", func := "sentry/sentrylaw27.CheckMore", spec := "checkMore", inPlace := ["internal/bytealg.abigen_runtime_cmpstring", "internal/abi.NoEscape"], unfollowed := true, recurses := true, plainKeys := false, apart := false, narrowed := true }
def CheckMoreUptoSaid : Prop := checkMoreUptoRow.holds Tryz.pinned (OpenSpec.upto checkMoreSpec)

/-- 'sentrylaw27.CheckSaid', WHERE WHAT IT READS IS OF BULK AT MOST 1048576: true; the input reads as it did. -/
def checkSaidUptoRow : OpenClaim := { program := "ytjdigpfipmckhaagreat", sum := "e36a42030ee26ed24aa6f69ee136fe424fcea2c3744fb34b32b2c03021b82fae", func := "sentry/sentrylaw27.CheckSaid", spec := "checkSaid", inPlace := ["internal/bytealg.abigen_runtime_cmpstring", "internal/abi.NoEscape"], unfollowed := true, recurses := true, plainKeys := false, apart := false, narrowed := true }
def CheckSaidUptoSaid : Prop := checkSaidUptoRow.holds Tryz.pinned (OpenSpec.upto checkSaidSpec)

end Rows
end Go.Proofs.YtjdigpfipmckhaaGreat
