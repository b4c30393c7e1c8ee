/-
  NARROWER THAN 'FOR EVERY INPUT', by the rows' own cells (each row's printed sentence says how): IterGets: laid · IterScans: laid · IterParted: laid · IterRows: laid.
  DERIVED. THE GIVEN ROWS OF THIS SEAT. 4 by the template 'for every input the law returns true; each argument reads behind the call as it read before'; 0 by the template 'total and deterministic' (their statements: YtcglegipdlaoiaaDoorTotals.lean).
  GIVEN WITH THE SEED: the statements are not yours to turn. If you find one false, say at which input.
  Laid BY PROGRAM, IN A SANDBOX (cutbox-rows.mjs): the forced cells as the released guide's own fill.sh prints them over the translation e4b7d22c781dc995… (all of the seat's roots in one cut). By AI agents, Wed Nov 11 2026. No macro, syntax, notation, axiom, sorry.
-/
import Derived.Test.YtcglegipdlaoiaaDoorChecked
import GoSem.PinnedTables
import GoSem.Claim
import GoSem.ClaimJoined
import GoSem.ClaimMapViews
import Derived.JoinedTies
import Derived.KernelRfl
namespace Go.Proofs.YtcglegipdlaoiaaDoor
/- THE CELL 'sum', in the pinned program and in every row, IS THE sha256 OF THE DUMP (.gsa) THAT YtcglegipdlaoiaaDoorProg.lean LOADS. Nothing in Lean hashes anything: it is a label: what it is worth is what the hold of that sum in a sandbox is worth. -/
noncomputable def Tryd.pinned : Pinned := { name := "ytcglegipdlaoiaadoor", sum := "e4b7d22c781dc995bafaaefcb79df072c92e9962096ed8d2b8fd9a2a43b2ba39", checked := Tryd.checked }
namespace Rows
def none {H : Type} : Left H := { results := [], args := [] }

/- WHAT THE LISTED PACKAGE-LEVEL VARIABLES READ AS WHEN THE CALL BEGINS. Each datum BY PROGRAM (the guide's laid-datum.mjs) off the statement by which the dump's own 'gosem.cut.vars' lays the variable. In a bare row this is a premise. The card (YtcglegipdlaoiaaDoorCards.lean) ties it to the program's text. -/
def laid_unicode_utf8_acceptRanges {H : Type} : DataW H := .agg [.agg [.lit (.int .u8 128), .lit (.int .u8 191)], .agg [.lit (.int .u8 160), .lit (.int .u8 191)], .agg [.lit (.int .u8 128), .lit (.int .u8 159)], .agg [.lit (.int .u8 144), .lit (.int .u8 191)], .agg [.lit (.int .u8 128), .lit (.int .u8 143)], .agg [.lit (.int .u8 0), .lit (.int .u8 0)], .agg [.lit (.int .u8 0), .lit (.int .u8 0)], .agg [.lit (.int .u8 0), .lit (.int .u8 0)], .agg [.lit (.int .u8 0), .lit (.int .u8 0)], .agg [.lit (.int .u8 0), .lit (.int .u8 0)], .agg [.lit (.int .u8 0), .lit (.int .u8 0)], .agg [.lit (.int .u8 0), .lit (.int .u8 0)], .agg [.lit (.int .u8 0), .lit (.int .u8 0)], .agg [.lit (.int .u8 0), .lit (.int .u8 0)], .agg [.lit (.int .u8 0), .lit (.int .u8 0)], .agg [.lit (.int .u8 0), .lit (.int .u8 0)]]
/-- One of Go's own tables, pinned by name: the form's constant. -/
def laid_unicode_utf8_first : DataW Unit := Go.Pinned.utf8First

/-- 'sentrylaw19.IterGets': WHATEVER THE INPUT: true; the input reads as it did. -/
def iterGetsSpec : ChangeSpec := { name := "iterGets", fn := fun _ => fun
  | [d1, d2, d3] => { results := [.lit (.bool true)], args := [d1, d2, d3] }
  | _ => none }
def iterGetsRow : OpenClaim := { program := "ytcglegipdlaoiaadoor", sum := "e4b7d22c781dc995bafaaefcb79df072c92e9962096ed8d2b8fd9a2a43b2ba39", func := "sentry/sentrylaw19.IterGets", spec := "iterGets", inPlace := ["internal/bytealg.CountString", "internal/bytealg.IndexByteString", "internal/bytealg.IndexString", "internal/abi.NoEscape", "internal/bytealg.MakeNoZero"], unfollowed := true, recurses := true, named := ["internal/bytealg.MaxLen", "unicode/utf8.first", "unicode/utf8.acceptRanges"], apart := false, laid := [("unicode/utf8.acceptRanges", laid_unicode_utf8_acceptRanges), ("unicode/utf8.first", laid_unicode_utf8_first)] }
def IterGetsSaid : Prop := iterGetsRow.holds Tryd.pinned (OpenSpec.ofChange iterGetsSpec)

/-- ITS FALSE NEIGHBOUR: 'it returns false'. Refute it at one input. -/
def iterGetsWrong : ChangeSpec := { name := "iterGets", fn := fun _ => fun
  | [d1, d2, d3] => { results := [.lit (.bool false)], args := [d1, d2, d3] }
  | _ => none }
def IterGetsWrongFalsely : Prop := iterGetsRow.holds Tryd.pinned (OpenSpec.ofChange iterGetsWrong)

/-- 'sentrylaw19.IterScans': WHATEVER THE INPUT: true; the input reads as it did. -/
def iterScansSpec : ChangeSpec := { name := "iterScans", fn := fun _ => fun
  | [d1, d2, d3, d4, d5] => { results := [.lit (.bool true)], args := [d1, d2, d3, d4, d5] }
  | _ => none }
def iterScansRow : OpenClaim := { program := "ytcglegipdlaoiaadoor", sum := "e4b7d22c781dc995bafaaefcb79df072c92e9962096ed8d2b8fd9a2a43b2ba39", func := "sentry/sentrylaw19.IterScans", spec := "iterScans", inPlace := ["internal/bytealg.CountString", "internal/bytealg.IndexByteString", "internal/bytealg.IndexString", "internal/abi.NoEscape", "internal/bytealg.MakeNoZero"], unfollowed := true, recurses := true, named := ["internal/bytealg.MaxLen", "unicode/utf8.first", "unicode/utf8.acceptRanges"], apart := false, laid := [("unicode/utf8.acceptRanges", laid_unicode_utf8_acceptRanges), ("unicode/utf8.first", laid_unicode_utf8_first)] }
def IterScansSaid : Prop := iterScansRow.holds Tryd.pinned (OpenSpec.ofChange iterScansSpec)

/-- ITS FALSE NEIGHBOUR: 'it returns false'. Refute it at one input. -/
def iterScansWrong : ChangeSpec := { name := "iterScans", fn := fun _ => fun
  | [d1, d2, d3, d4, d5] => { results := [.lit (.bool false)], args := [d1, d2, d3, d4, d5] }
  | _ => none }
def IterScansWrongFalsely : Prop := iterScansRow.holds Tryd.pinned (OpenSpec.ofChange iterScansWrong)

/-- 'sentrylaw19.IterParted': WHATEVER THE INPUT: true; the input reads as it did. -/
def iterPartedSpec : ChangeSpec := { name := "iterParted", fn := fun _ => fun
  | [d1, d2, d3] => { results := [.lit (.bool true)], args := [d1, d2, d3] }
  | _ => none }
def iterPartedRow : OpenClaim := { program := "ytcglegipdlaoiaadoor", sum := "e4b7d22c781dc995bafaaefcb79df072c92e9962096ed8d2b8fd9a2a43b2ba39", func := "sentry/sentrylaw19.IterParted", spec := "iterParted", inPlace := ["internal/bytealg.CountString", "internal/bytealg.IndexByteString", "internal/bytealg.IndexString", "internal/abi.NoEscape", "internal/bytealg.MakeNoZero"], unfollowed := true, recurses := true, named := ["internal/bytealg.MaxLen", "unicode/utf8.first", "unicode/utf8.acceptRanges"], apart := false, laid := [("unicode/utf8.acceptRanges", laid_unicode_utf8_acceptRanges), ("unicode/utf8.first", laid_unicode_utf8_first)] }
def IterPartedSaid : Prop := iterPartedRow.holds Tryd.pinned (OpenSpec.ofChange iterPartedSpec)

/-- ITS FALSE NEIGHBOUR: 'it returns false'. Refute it at one input. -/
def iterPartedWrong : ChangeSpec := { name := "iterParted", fn := fun _ => fun
  | [d1, d2, d3] => { results := [.lit (.bool false)], args := [d1, d2, d3] }
  | _ => none }
def IterPartedWrongFalsely : Prop := iterPartedRow.holds Tryd.pinned (OpenSpec.ofChange iterPartedWrong)

/-- 'sentrylaw19.IterRows': WHATEVER THE INPUT: true; the input reads as it did. -/
def iterRowsSpec : ChangeSpec := { name := "iterRows", fn := fun _ => fun
  | [d1, d2, d3] => { results := [.lit (.bool true)], args := [d1, d2, d3] }
  | _ => none }
def iterRowsRow : OpenClaim := { program := "ytcglegipdlaoiaadoor", sum := "e4b7d22c781dc995bafaaefcb79df072c92e9962096ed8d2b8fd9a2a43b2ba39", func := "sentry/sentrylaw19.IterRows", spec := "iterRows", inPlace := ["internal/bytealg.CountString", "internal/bytealg.IndexByteString", "internal/bytealg.IndexString", "internal/abi.NoEscape", "internal/bytealg.MakeNoZero"], unfollowed := true, recurses := true, named := ["internal/bytealg.MaxLen", "unicode/utf8.first", "unicode/utf8.acceptRanges"], apart := false, laid := [("unicode/utf8.acceptRanges", laid_unicode_utf8_acceptRanges), ("unicode/utf8.first", laid_unicode_utf8_first)] }
def IterRowsSaid : Prop := iterRowsRow.holds Tryd.pinned (OpenSpec.ofChange iterRowsSpec)

/-- ITS FALSE NEIGHBOUR: 'it returns false'. Refute it at one input. -/
def iterRowsWrong : ChangeSpec := { name := "iterRows", fn := fun _ => fun
  | [d1, d2, d3] => { results := [.lit (.bool false)], args := [d1, d2, d3] }
  | _ => none }
def IterRowsWrongFalsely : Prop := iterRowsRow.holds Tryd.pinned (OpenSpec.ofChange iterRowsWrong)

/- THE SECOND FORM. 'bulk': how many values and letters a reading holds, each counted each time it is reached (what is shared counts as often as it is met; a slice's spare places count too). A statement '..UptoSaid' is the law's where the arguments, and the package variables that the reading takes, are together of bulk at most 1048576: NARROWER than '..Said'. Prove '..Said' where nothing that the law and all that it calls make is longer than what came in: it says more and counts as full. Else prove '..UptoSaid'. A law counts once. -/
mutual
def uptoBulk {H : Type} : DataW H → Nat
  | .lit (.string bytes) => bytes.length + 1
  | .lit _ => 1
  | .nil => 1
  | .ptr d => uptoBulk d + 1
  | .slice elems spare => uptoBulkAll elems + uptoBulkAll spare + 1
  | .agg parts => uptoBulkAll parts + 1
  | .iface _ d => uptoBulk d + 1
  | .map entries => uptoBulkEntries entries + 1
  | .held _ => 1
def uptoBulkAll {H : Type} : List (DataW H) → Nat
  | [] => 0
  | d :: r => uptoBulk d + uptoBulkAll r
def uptoBulkEntries {H : Type} : List (Lit × DataW H) → Nat
  | [] => 0
  | x :: r => uptoBulkEntry x + uptoBulkEntries r
def uptoBulkEntry {H : Type} : Lit × DataW H → Nat
  | (.string bytes, d) => bytes.length + uptoBulk d + 1
  | (_, d) => uptoBulk d + 1
 end
def uptoSmall : (H : Type) → List (DataW H) → Bool := fun _ ds => decide (uptoBulkAll ds ≤ 1048576)
def OpenSpec.upto (s : _root_.Go.ChangeSpec) : _root_.Go.OpenSpec := { _root_.Go.OpenSpec.ofChange s with cond := some uptoSmall }

/-- 'sentrylaw19.IterGets', WHERE WHAT IT READS IS OF BULK AT MOST 1048576: true; the input reads as it did. -/
def iterGetsUptoRow : OpenClaim := { program := "ytcglegipdlaoiaadoor", sum := "e4b7d22c781dc995bafaaefcb79df072c92e9962096ed8d2b8fd9a2a43b2ba39", func := "sentry/sentrylaw19.IterGets", spec := "iterGets", inPlace := ["internal/bytealg.CountString", "internal/bytealg.IndexByteString", "internal/bytealg.IndexString", "internal/abi.NoEscape", "internal/bytealg.MakeNoZero"], unfollowed := true, recurses := true, named := ["internal/bytealg.MaxLen", "unicode/utf8.first", "unicode/utf8.acceptRanges"], apart := false, laid := [("unicode/utf8.acceptRanges", laid_unicode_utf8_acceptRanges), ("unicode/utf8.first", laid_unicode_utf8_first)], narrowed := true }
def IterGetsUptoSaid : Prop := iterGetsUptoRow.holds Tryd.pinned (OpenSpec.upto iterGetsSpec)

/-- 'sentrylaw19.IterScans', WHERE WHAT IT READS IS OF BULK AT MOST 1048576: true; the input reads as it did. -/
def iterScansUptoRow : OpenClaim := { program := "ytcglegipdlaoiaadoor", sum := "e4b7d22c781dc995bafaaefcb79df072c92e9962096ed8d2b8fd9a2a43b2ba39", func := "sentry/sentrylaw19.IterScans", spec := "iterScans", inPlace := ["internal/bytealg.CountString", "internal/bytealg.IndexByteString", "internal/bytealg.IndexString", "internal/abi.NoEscape", "internal/bytealg.MakeNoZero"], unfollowed := true, recurses := true, named := ["internal/bytealg.MaxLen", "unicode/utf8.first", "unicode/utf8.acceptRanges"], apart := false, laid := [("unicode/utf8.acceptRanges", laid_unicode_utf8_acceptRanges), ("unicode/utf8.first", laid_unicode_utf8_first)], narrowed := true }
def IterScansUptoSaid : Prop := iterScansUptoRow.holds Tryd.pinned (OpenSpec.upto iterScansSpec)

/-- 'sentrylaw19.IterParted', WHERE WHAT IT READS IS OF BULK AT MOST 1048576: true; the input reads as it did. -/
def iterPartedUptoRow : OpenClaim := { program := "ytcglegipdlaoiaadoor", sum := "e4b7d22c781dc995bafaaefcb79df072c92e9962096ed8d2b8fd9a2a43b2ba39", func := "sentry/sentrylaw19.IterParted", spec := "iterParted", inPlace := ["internal/bytealg.CountString", "internal/bytealg.IndexByteString", "internal/bytealg.IndexString", "internal/abi.NoEscape", "internal/bytealg.MakeNoZero"], unfollowed := true, recurses := true, named := ["internal/bytealg.MaxLen", "unicode/utf8.first", "unicode/utf8.acceptRanges"], apart := false, laid := [("unicode/utf8.acceptRanges", laid_unicode_utf8_acceptRanges), ("unicode/utf8.first", laid_unicode_utf8_first)], narrowed := true }
def IterPartedUptoSaid : Prop := iterPartedUptoRow.holds Tryd.pinned (OpenSpec.upto iterPartedSpec)

/-- 'sentrylaw19.IterRows', WHERE WHAT IT READS IS OF BULK AT MOST 1048576: true; the input reads as it did. -/
def iterRowsUptoRow : OpenClaim := { program := "ytcglegipdlaoiaadoor", sum := "e4b7d22c781dc995bafaaefcb79df072c92e9962096ed8d2b8fd9a2a43b2ba39", func := "sentry/sentrylaw19.IterRows", spec := "iterRows", inPlace := ["internal/bytealg.CountString", "internal/bytealg.IndexByteString", "internal/bytealg.IndexString", "internal/abi.NoEscape", "internal/bytealg.MakeNoZero"], unfollowed := true, recurses := true, named := ["internal/bytealg.MaxLen", "unicode/utf8.first", "unicode/utf8.acceptRanges"], apart := false, laid := [("unicode/utf8.acceptRanges", laid_unicode_utf8_acceptRanges), ("unicode/utf8.first", laid_unicode_utf8_first)], narrowed := true }
def IterRowsUptoSaid : Prop := iterRowsUptoRow.holds Tryd.pinned (OpenSpec.upto iterRowsSpec)

end Rows
end Go.Proofs.YtcglegipdlaoiaaDoor
