/-
  NARROWER THAN 'FOR EVERY INPUT', by the rows' own cells (each row's printed sentence says how): CodecNumbers: laid · CodecOrder: laid · CodecTexts: laid · CodecInner: laid · CodecOuter: laid · DropTwice: laid · DropSame: laid · DropKeeps: laid · DropRefuses: laid.
  DERIVED. THE GIVEN ROWS OF THIS SEAT. 9 by the template 'for every input the law returns true; each argument reads behind the call as it read before'; 0 by the template 'total and deterministic' (their statements: YtkllfdfipkcddaaDoorTotals.lean).
  GIVEN WITH THE SEED: the statements are not yours to turn. If you find one false, say at which input.
  Laid BY PROGRAM, IN A SANDBOX (cutbox-rows.mjs): the forced cells as the released guide's own fill.sh prints them over the translation f0383cbbcb93dbaf… (all of the seat's roots in one cut). By AI agents, Wed Nov 11 2026. No macro, syntax, notation, axiom, sorry.
-/
import Derived.Test.YtkllfdfipkcddaaDoorChecked
import GoSem.PinnedTables
import GoSem.Claim
import GoSem.ClaimJoined
import GoSem.ClaimMapViews
import Derived.JoinedTies
import Derived.KernelRfl
namespace Go.Proofs.YtkllfdfipkcddaaDoor
/- THE CELL 'sum', in the pinned program and in every row, IS THE sha256 OF THE DUMP (.gsa) THAT YtkllfdfipkcddaaDoorProg.lean LOADS. Nothing in Lean hashes anything: it is a label: what it is worth is what the hold of that sum in a sandbox is worth. -/
noncomputable def Tryd.pinned : Pinned := { name := "ytkllfdfipkcddaadoor", sum := "f0383cbbcb93dbaf655543ea385cc67bc2fb107a940d79e48b45b443f9ffe2fd", checked := Tryd.checked }
namespace Rows
def none {H : Type} : Left H := { results := [], args := [] }

/- WHAT THE LISTED PACKAGE-LEVEL VARIABLES READ AS WHEN THE CALL BEGINS. Each datum BY PROGRAM (the guide's laid-datum.mjs) off the statement by which the dump's own 'gosem.cut.vars' lays the variable. In a bare row this is a premise. The card (YtkllfdfipkcddaaDoorCards.lean) ties it to the program's text. -/
def laid_unicode_utf8_acceptRanges {H : Type} : DataW H := .agg [.agg [.lit (.int .u8 128), .lit (.int .u8 191)], .agg [.lit (.int .u8 160), .lit (.int .u8 191)], .agg [.lit (.int .u8 128), .lit (.int .u8 159)], .agg [.lit (.int .u8 144), .lit (.int .u8 191)], .agg [.lit (.int .u8 128), .lit (.int .u8 143)], .agg [.lit (.int .u8 0), .lit (.int .u8 0)], .agg [.lit (.int .u8 0), .lit (.int .u8 0)], .agg [.lit (.int .u8 0), .lit (.int .u8 0)], .agg [.lit (.int .u8 0), .lit (.int .u8 0)], .agg [.lit (.int .u8 0), .lit (.int .u8 0)], .agg [.lit (.int .u8 0), .lit (.int .u8 0)], .agg [.lit (.int .u8 0), .lit (.int .u8 0)], .agg [.lit (.int .u8 0), .lit (.int .u8 0)], .agg [.lit (.int .u8 0), .lit (.int .u8 0)], .agg [.lit (.int .u8 0), .lit (.int .u8 0)], .agg [.lit (.int .u8 0), .lit (.int .u8 0)]]
/-- One of Go's own tables, pinned by name: the form's constant. -/
def laid_unicode_utf8_first : DataW Unit := Go.Pinned.utf8First

/-- 'sentrylaw02.CodecNumbers': WHATEVER THE INPUT: true; the input reads as it did. -/
def codecNumbersSpec : ChangeSpec := { name := "codecNumbers", fn := fun _ => fun
  | [d1, d2] => { results := [.lit (.bool true)], args := [d1, d2] }
  | _ => none }
def codecNumbersRow : OpenClaim := { program := "ytkllfdfipkcddaadoor", sum := "f0383cbbcb93dbaf655543ea385cc67bc2fb107a940d79e48b45b443f9ffe2fd", func := "sentry/sentrylaw02.CodecNumbers", spec := "codecNumbers", inPlace := ["internal/bytealg.CountString", "internal/bytealg.IndexByteString", "internal/bytealg.IndexString", "internal/abi.NoEscape", "internal/bytealg.MakeNoZero"], named := ["internal/bytealg.MaxLen", "unicode/utf8.first", "unicode/utf8.acceptRanges"], apart := false, laid := [("unicode/utf8.acceptRanges", laid_unicode_utf8_acceptRanges), ("unicode/utf8.first", laid_unicode_utf8_first)] }
def CodecNumbersSaid : Prop := codecNumbersRow.holds Tryd.pinned (OpenSpec.ofChange codecNumbersSpec)

/-- ITS FALSE NEIGHBOUR: 'it returns false'. Refute it at one input. -/
def codecNumbersWrong : ChangeSpec := { name := "codecNumbers", fn := fun _ => fun
  | [d1, d2] => { results := [.lit (.bool false)], args := [d1, d2] }
  | _ => none }
def CodecNumbersWrongFalsely : Prop := codecNumbersRow.holds Tryd.pinned (OpenSpec.ofChange codecNumbersWrong)

/-- 'sentrylaw02.CodecOrder': WHATEVER THE INPUT: true; the input reads as it did. -/
def codecOrderSpec : ChangeSpec := { name := "codecOrder", fn := fun _ => fun
  | [d1, d2] => { results := [.lit (.bool true)], args := [d1, d2] }
  | _ => none }
def codecOrderRow : OpenClaim := { program := "ytkllfdfipkcddaadoor", sum := "f0383cbbcb93dbaf655543ea385cc67bc2fb107a940d79e48b45b443f9ffe2fd", func := "sentry/sentrylaw02.CodecOrder", spec := "codecOrder", inPlace := ["internal/bytealg.CountString", "internal/bytealg.IndexByteString", "internal/bytealg.IndexString", "internal/abi.NoEscape", "internal/bytealg.MakeNoZero"], named := ["internal/bytealg.MaxLen", "unicode/utf8.first", "unicode/utf8.acceptRanges"], apart := false, laid := [("unicode/utf8.acceptRanges", laid_unicode_utf8_acceptRanges), ("unicode/utf8.first", laid_unicode_utf8_first)] }
def CodecOrderSaid : Prop := codecOrderRow.holds Tryd.pinned (OpenSpec.ofChange codecOrderSpec)

/-- ITS FALSE NEIGHBOUR: 'it returns false'. Refute it at one input. -/
def codecOrderWrong : ChangeSpec := { name := "codecOrder", fn := fun _ => fun
  | [d1, d2] => { results := [.lit (.bool false)], args := [d1, d2] }
  | _ => none }
def CodecOrderWrongFalsely : Prop := codecOrderRow.holds Tryd.pinned (OpenSpec.ofChange codecOrderWrong)

/-- 'sentrylaw02.CodecTexts': WHATEVER THE INPUT: true; the input reads as it did. -/
def codecTextsSpec : ChangeSpec := { name := "codecTexts", fn := fun _ => fun
  | [d1, d2, d3] => { results := [.lit (.bool true)], args := [d1, d2, d3] }
  | _ => none }
def codecTextsRow : OpenClaim := { program := "ytkllfdfipkcddaadoor", sum := "f0383cbbcb93dbaf655543ea385cc67bc2fb107a940d79e48b45b443f9ffe2fd", func := "sentry/sentrylaw02.CodecTexts", spec := "codecTexts", inPlace := ["internal/bytealg.CountString", "internal/bytealg.IndexByteString", "internal/bytealg.IndexString", "internal/abi.NoEscape", "internal/bytealg.MakeNoZero"], named := ["internal/bytealg.MaxLen", "unicode/utf8.first", "unicode/utf8.acceptRanges"], apart := false, laid := [("unicode/utf8.acceptRanges", laid_unicode_utf8_acceptRanges), ("unicode/utf8.first", laid_unicode_utf8_first)] }
def CodecTextsSaid : Prop := codecTextsRow.holds Tryd.pinned (OpenSpec.ofChange codecTextsSpec)

/-- ITS FALSE NEIGHBOUR: 'it returns false'. Refute it at one input. -/
def codecTextsWrong : ChangeSpec := { name := "codecTexts", fn := fun _ => fun
  | [d1, d2, d3] => { results := [.lit (.bool false)], args := [d1, d2, d3] }
  | _ => none }
def CodecTextsWrongFalsely : Prop := codecTextsRow.holds Tryd.pinned (OpenSpec.ofChange codecTextsWrong)

/-- 'sentrylaw02.CodecInner': WHATEVER THE INPUT: true; the input reads as it did. -/
def codecInnerSpec : ChangeSpec := { name := "codecInner", fn := fun _ => fun
  | [d] => { results := [.lit (.bool true)], args := [d] }
  | _ => none }
def codecInnerRow : OpenClaim := { program := "ytkllfdfipkcddaadoor", sum := "f0383cbbcb93dbaf655543ea385cc67bc2fb107a940d79e48b45b443f9ffe2fd", func := "sentry/sentrylaw02.CodecInner", spec := "codecInner", inPlace := ["internal/bytealg.CountString", "internal/bytealg.IndexByteString", "internal/bytealg.IndexString", "internal/abi.NoEscape", "internal/bytealg.MakeNoZero"], named := ["internal/bytealg.MaxLen", "unicode/utf8.first", "unicode/utf8.acceptRanges"], apart := false, laid := [("unicode/utf8.acceptRanges", laid_unicode_utf8_acceptRanges), ("unicode/utf8.first", laid_unicode_utf8_first)] }
def CodecInnerSaid : Prop := codecInnerRow.holds Tryd.pinned (OpenSpec.ofChange codecInnerSpec)

/-- ITS FALSE NEIGHBOUR: 'it returns false'. Refute it at one input. -/
def codecInnerWrong : ChangeSpec := { name := "codecInner", fn := fun _ => fun
  | [d] => { results := [.lit (.bool false)], args := [d] }
  | _ => none }
def CodecInnerWrongFalsely : Prop := codecInnerRow.holds Tryd.pinned (OpenSpec.ofChange codecInnerWrong)

/-- 'sentrylaw02.CodecOuter': WHATEVER THE INPUT: true; the input reads as it did. -/
def codecOuterSpec : ChangeSpec := { name := "codecOuter", fn := fun _ => fun
  | [d] => { results := [.lit (.bool true)], args := [d] }
  | _ => none }
def codecOuterRow : OpenClaim := { program := "ytkllfdfipkcddaadoor", sum := "f0383cbbcb93dbaf655543ea385cc67bc2fb107a940d79e48b45b443f9ffe2fd", func := "sentry/sentrylaw02.CodecOuter", spec := "codecOuter", inPlace := ["internal/bytealg.CountString", "internal/bytealg.IndexByteString", "internal/bytealg.IndexString", "internal/abi.NoEscape", "internal/bytealg.MakeNoZero"], named := ["internal/bytealg.MaxLen", "unicode/utf8.first", "unicode/utf8.acceptRanges"], apart := false, laid := [("unicode/utf8.acceptRanges", laid_unicode_utf8_acceptRanges), ("unicode/utf8.first", laid_unicode_utf8_first)] }
def CodecOuterSaid : Prop := codecOuterRow.holds Tryd.pinned (OpenSpec.ofChange codecOuterSpec)

/-- ITS FALSE NEIGHBOUR: 'it returns false'. Refute it at one input. -/
def codecOuterWrong : ChangeSpec := { name := "codecOuter", fn := fun _ => fun
  | [d] => { results := [.lit (.bool false)], args := [d] }
  | _ => none }
def CodecOuterWrongFalsely : Prop := codecOuterRow.holds Tryd.pinned (OpenSpec.ofChange codecOuterWrong)

/-- 'sentrylaw18.DropTwice': WHATEVER THE INPUT: true; the input reads as it did. -/
def dropTwiceSpec : ChangeSpec := { name := "dropTwice", fn := fun _ => fun
  | [d1, d2, d3, d4] => { results := [.lit (.bool true)], args := [d1, d2, d3, d4] }
  | _ => none }
def dropTwiceRow : OpenClaim := { program := "ytkllfdfipkcddaadoor", sum := "f0383cbbcb93dbaf655543ea385cc67bc2fb107a940d79e48b45b443f9ffe2fd", func := "sentry/sentrylaw18.DropTwice", spec := "dropTwice", inPlace := ["internal/bytealg.CountString", "internal/bytealg.IndexByteString", "internal/bytealg.IndexString", "internal/abi.NoEscape", "internal/bytealg.MakeNoZero"], unfollowed := true, recurses := true, named := ["internal/bytealg.MaxLen", "unicode/utf8.first", "unicode/utf8.acceptRanges"], apart := false, laid := [("unicode/utf8.acceptRanges", laid_unicode_utf8_acceptRanges), ("unicode/utf8.first", laid_unicode_utf8_first)] }
def DropTwiceSaid : Prop := dropTwiceRow.holds Tryd.pinned (OpenSpec.ofChange dropTwiceSpec)

/-- ITS FALSE NEIGHBOUR: 'it returns false'. Refute it at one input. -/
def dropTwiceWrong : ChangeSpec := { name := "dropTwice", fn := fun _ => fun
  | [d1, d2, d3, d4] => { results := [.lit (.bool false)], args := [d1, d2, d3, d4] }
  | _ => none }
def DropTwiceWrongFalsely : Prop := dropTwiceRow.holds Tryd.pinned (OpenSpec.ofChange dropTwiceWrong)

/-- 'sentrylaw18.DropSame': WHATEVER THE INPUT: true; the input reads as it did. -/
def dropSameSpec : ChangeSpec := { name := "dropSame", fn := fun _ => fun
  | [d1, d2, d3, d4] => { results := [.lit (.bool true)], args := [d1, d2, d3, d4] }
  | _ => none }
def dropSameRow : OpenClaim := { program := "ytkllfdfipkcddaadoor", sum := "f0383cbbcb93dbaf655543ea385cc67bc2fb107a940d79e48b45b443f9ffe2fd", func := "sentry/sentrylaw18.DropSame", spec := "dropSame", inPlace := ["internal/bytealg.CountString", "internal/bytealg.IndexByteString", "internal/bytealg.IndexString", "internal/abi.NoEscape", "internal/bytealg.MakeNoZero"], unfollowed := true, recurses := true, named := ["internal/bytealg.MaxLen", "unicode/utf8.first", "unicode/utf8.acceptRanges"], apart := false, laid := [("unicode/utf8.acceptRanges", laid_unicode_utf8_acceptRanges), ("unicode/utf8.first", laid_unicode_utf8_first)] }
def DropSameSaid : Prop := dropSameRow.holds Tryd.pinned (OpenSpec.ofChange dropSameSpec)

/-- ITS FALSE NEIGHBOUR: 'it returns false'. Refute it at one input. -/
def dropSameWrong : ChangeSpec := { name := "dropSame", fn := fun _ => fun
  | [d1, d2, d3, d4] => { results := [.lit (.bool false)], args := [d1, d2, d3, d4] }
  | _ => none }
def DropSameWrongFalsely : Prop := dropSameRow.holds Tryd.pinned (OpenSpec.ofChange dropSameWrong)

/-- 'sentrylaw18.DropKeeps': WHATEVER THE INPUT: true; the input reads as it did. -/
def dropKeepsSpec : ChangeSpec := { name := "dropKeeps", fn := fun _ => fun
  | [d1, d2, d3, d4] => { results := [.lit (.bool true)], args := [d1, d2, d3, d4] }
  | _ => none }
def dropKeepsRow : OpenClaim := { program := "ytkllfdfipkcddaadoor", sum := "f0383cbbcb93dbaf655543ea385cc67bc2fb107a940d79e48b45b443f9ffe2fd", func := "sentry/sentrylaw18.DropKeeps", spec := "dropKeeps", inPlace := ["internal/bytealg.CountString", "internal/bytealg.IndexByteString", "internal/bytealg.IndexString", "internal/abi.NoEscape", "internal/bytealg.MakeNoZero"], unfollowed := true, recurses := true, named := ["internal/bytealg.MaxLen", "unicode/utf8.first", "unicode/utf8.acceptRanges"], apart := false, laid := [("unicode/utf8.acceptRanges", laid_unicode_utf8_acceptRanges), ("unicode/utf8.first", laid_unicode_utf8_first)] }
def DropKeepsSaid : Prop := dropKeepsRow.holds Tryd.pinned (OpenSpec.ofChange dropKeepsSpec)

/-- ITS FALSE NEIGHBOUR: 'it returns false'. Refute it at one input. -/
def dropKeepsWrong : ChangeSpec := { name := "dropKeeps", fn := fun _ => fun
  | [d1, d2, d3, d4] => { results := [.lit (.bool false)], args := [d1, d2, d3, d4] }
  | _ => none }
def DropKeepsWrongFalsely : Prop := dropKeepsRow.holds Tryd.pinned (OpenSpec.ofChange dropKeepsWrong)

/-- 'sentrylaw18.DropRefuses': WHATEVER THE INPUT: true; the input reads as it did. -/
def dropRefusesSpec : ChangeSpec := { name := "dropRefuses", fn := fun _ => fun
  | [d1, d2] => { results := [.lit (.bool true)], args := [d1, d2] }
  | _ => none }
def dropRefusesRow : OpenClaim := { program := "ytkllfdfipkcddaadoor", sum := "f0383cbbcb93dbaf655543ea385cc67bc2fb107a940d79e48b45b443f9ffe2fd", func := "sentry/sentrylaw18.DropRefuses", spec := "dropRefuses", inPlace := ["internal/bytealg.CountString", "internal/bytealg.IndexByteString", "internal/bytealg.IndexString", "internal/abi.NoEscape", "internal/bytealg.MakeNoZero"], unfollowed := true, recurses := true, named := ["internal/bytealg.MaxLen", "unicode/utf8.first", "unicode/utf8.acceptRanges"], apart := false, laid := [("unicode/utf8.acceptRanges", laid_unicode_utf8_acceptRanges), ("unicode/utf8.first", laid_unicode_utf8_first)] }
def DropRefusesSaid : Prop := dropRefusesRow.holds Tryd.pinned (OpenSpec.ofChange dropRefusesSpec)

/-- ITS FALSE NEIGHBOUR: 'it returns false'. Refute it at one input. -/
def dropRefusesWrong : ChangeSpec := { name := "dropRefuses", fn := fun _ => fun
  | [d1, d2] => { results := [.lit (.bool false)], args := [d1, d2] }
  | _ => none }
def DropRefusesWrongFalsely : Prop := dropRefusesRow.holds Tryd.pinned (OpenSpec.ofChange dropRefusesWrong)

/- THE SECOND FORM. 'bulk': how many values and letters a reading holds, each counted each time it is reached (what is shared counts as often as it is met; a slice's spare places count too). A statement '..UptoSaid' is the law's where the arguments, and the package variables that the reading takes, are together of bulk at most 1048576: NARROWER than '..Said'. Prove '..Said' where nothing that the law and all that it calls make is longer than what came in: it says more and counts as full. Else prove '..UptoSaid'. A law counts once. -/
mutual
def uptoBulk {H : Type} : DataW H → Nat
  | .lit (.string bytes) => bytes.length + 1
  | .lit _ => 1
  | .nil => 1
  | .ptr d => uptoBulk d + 1
  | .slice elems spare => uptoBulkAll elems + uptoBulkAll spare + 1
  | .agg parts => uptoBulkAll parts + 1
  | .iface _ d => uptoBulk d + 1
  | .map entries => uptoBulkEntries entries + 1
  | .held _ => 1
def uptoBulkAll {H : Type} : List (DataW H) → Nat
  | [] => 0
  | d :: r => uptoBulk d + uptoBulkAll r
def uptoBulkEntries {H : Type} : List (Lit × DataW H) → Nat
  | [] => 0
  | x :: r => uptoBulkEntry x + uptoBulkEntries r
def uptoBulkEntry {H : Type} : Lit × DataW H → Nat
  | (.string bytes, d) => bytes.length + uptoBulk d + 1
  | (_, d) => uptoBulk d + 1
 end
def uptoSmall : (H : Type) → List (DataW H) → Bool := fun _ ds => decide (uptoBulkAll ds ≤ 1048576)
def OpenSpec.upto (s : _root_.Go.ChangeSpec) : _root_.Go.OpenSpec := { _root_.Go.OpenSpec.ofChange s with cond := some uptoSmall }

/-- 'sentrylaw02.CodecNumbers', WHERE WHAT IT READS IS OF BULK AT MOST 1048576: true; the input reads as it did. -/
def codecNumbersUptoRow : OpenClaim := { program := "ytkllfdfipkcddaadoor", sum := "f0383cbbcb93dbaf655543ea385cc67bc2fb107a940d79e48b45b443f9ffe2fd", func := "sentry/sentrylaw02.CodecNumbers", spec := "codecNumbers", inPlace := ["internal/bytealg.CountString", "internal/bytealg.IndexByteString", "internal/bytealg.IndexString", "internal/abi.NoEscape", "internal/bytealg.MakeNoZero"], named := ["internal/bytealg.MaxLen", "unicode/utf8.first", "unicode/utf8.acceptRanges"], apart := false, laid := [("unicode/utf8.acceptRanges", laid_unicode_utf8_acceptRanges), ("unicode/utf8.first", laid_unicode_utf8_first)], narrowed := true }
def CodecNumbersUptoSaid : Prop := codecNumbersUptoRow.holds Tryd.pinned (OpenSpec.upto codecNumbersSpec)

/-- 'sentrylaw02.CodecOrder', WHERE WHAT IT READS IS OF BULK AT MOST 1048576: true; the input reads as it did. -/
def codecOrderUptoRow : OpenClaim := { program := "ytkllfdfipkcddaadoor", sum := "f0383cbbcb93dbaf655543ea385cc67bc2fb107a940d79e48b45b443f9ffe2fd", func := "sentry/sentrylaw02.CodecOrder", spec := "codecOrder", inPlace := ["internal/bytealg.CountString", "internal/bytealg.IndexByteString", "internal/bytealg.IndexString", "internal/abi.NoEscape", "internal/bytealg.MakeNoZero"], named := ["internal/bytealg.MaxLen", "unicode/utf8.first", "unicode/utf8.acceptRanges"], apart := false, laid := [("unicode/utf8.acceptRanges", laid_unicode_utf8_acceptRanges), ("unicode/utf8.first", laid_unicode_utf8_first)], narrowed := true }
def CodecOrderUptoSaid : Prop := codecOrderUptoRow.holds Tryd.pinned (OpenSpec.upto codecOrderSpec)

/-- 'sentrylaw02.CodecTexts', WHERE WHAT IT READS IS OF BULK AT MOST 1048576: true; the input reads as it did. -/
def codecTextsUptoRow : OpenClaim := { program := "ytkllfdfipkcddaadoor", sum := "f0383cbbcb93dbaf655543ea385cc67bc2fb107a940d79e48b45b443f9ffe2fd", func := "sentry/sentrylaw02.CodecTexts", spec := "codecTexts", inPlace := ["internal/bytealg.CountString", "internal/bytealg.IndexByteString", "internal/bytealg.IndexString", "internal/abi.NoEscape", "internal/bytealg.MakeNoZero"], named := ["internal/bytealg.MaxLen", "unicode/utf8.first", "unicode/utf8.acceptRanges"], apart := false, laid := [("unicode/utf8.acceptRanges", laid_unicode_utf8_acceptRanges), ("unicode/utf8.first", laid_unicode_utf8_first)], narrowed := true }
def CodecTextsUptoSaid : Prop := codecTextsUptoRow.holds Tryd.pinned (OpenSpec.upto codecTextsSpec)

/-- 'sentrylaw02.CodecInner', WHERE WHAT IT READS IS OF BULK AT MOST 1048576: true; the input reads as it did. -/
def codecInnerUptoRow : OpenClaim := { program := "ytkllfdfipkcddaadoor", sum := "f0383cbbcb93dbaf655543ea385cc67bc2fb107a940d79e48b45b443f9ffe2fd", func := "sentry/sentrylaw02.CodecInner", spec := "codecInner", inPlace := ["internal/bytealg.CountString", "internal/bytealg.IndexByteString", "internal/bytealg.IndexString", "internal/abi.NoEscape", "internal/bytealg.MakeNoZero"], named := ["internal/bytealg.MaxLen", "unicode/utf8.first", "unicode/utf8.acceptRanges"], apart := false, laid := [("unicode/utf8.acceptRanges", laid_unicode_utf8_acceptRanges), ("unicode/utf8.first", laid_unicode_utf8_first)], narrowed := true }
def CodecInnerUptoSaid : Prop := codecInnerUptoRow.holds Tryd.pinned (OpenSpec.upto codecInnerSpec)

/-- 'sentrylaw02.CodecOuter', WHERE WHAT IT READS IS OF BULK AT MOST 1048576: true; the input reads as it did. -/
def codecOuterUptoRow : OpenClaim := { program := "ytkllfdfipkcddaadoor", sum := "f0383cbbcb93dbaf655543ea385cc67bc2fb107a940d79e48b45b443f9ffe2fd", func := "sentry/sentrylaw02.CodecOuter", spec := "codecOuter", inPlace := ["internal/bytealg.CountString", "internal/bytealg.IndexByteString", "internal/bytealg.IndexString", "internal/abi.NoEscape", "internal/bytealg.MakeNoZero"], named := ["internal/bytealg.MaxLen", "unicode/utf8.first", "unicode/utf8.acceptRanges"], apart := false, laid := [("unicode/utf8.acceptRanges", laid_unicode_utf8_acceptRanges), ("unicode/utf8.first", laid_unicode_utf8_first)], narrowed := true }
def CodecOuterUptoSaid : Prop := codecOuterUptoRow.holds Tryd.pinned (OpenSpec.upto codecOuterSpec)

/-- 'sentrylaw18.DropTwice', WHERE WHAT IT READS IS OF BULK AT MOST 1048576: true; the input reads as it did. -/
def dropTwiceUptoRow : OpenClaim := { program := "ytkllfdfipkcddaadoor", sum := "f0383cbbcb93dbaf655543ea385cc67bc2fb107a940d79e48b45b443f9ffe2fd", func := "sentry/sentrylaw18.DropTwice", spec := "dropTwice", inPlace := ["internal/bytealg.CountString", "internal/bytealg.IndexByteString", "internal/bytealg.IndexString", "internal/abi.NoEscape", "internal/bytealg.MakeNoZero"], unfollowed := true, recurses := true, named := ["internal/bytealg.MaxLen", "unicode/utf8.first", "unicode/utf8.acceptRanges"], apart := false, laid := [("unicode/utf8.acceptRanges", laid_unicode_utf8_acceptRanges), ("unicode/utf8.first", laid_unicode_utf8_first)], narrowed := true }
def DropTwiceUptoSaid : Prop := dropTwiceUptoRow.holds Tryd.pinned (OpenSpec.upto dropTwiceSpec)

/-- 'sentrylaw18.DropSame', WHERE WHAT IT READS IS OF BULK AT MOST 1048576: true; the input reads as it did. -/
def dropSameUptoRow : OpenClaim := { program := "ytkllfdfipkcddaadoor", sum := "f0383cbbcb93dbaf655543ea385cc67bc2fb107a940d79e48b45b443f9ffe2fd", func := "sentry/sentrylaw18.DropSame", spec := "dropSame", inPlace := ["internal/bytealg.CountString", "internal/bytealg.IndexByteString", "internal/bytealg.IndexString", "internal/abi.NoEscape", "internal/bytealg.MakeNoZero"], unfollowed := true, recurses := true, named := ["internal/bytealg.MaxLen", "unicode/utf8.first", "unicode/utf8.acceptRanges"], apart := false, laid := [("unicode/utf8.acceptRanges", laid_unicode_utf8_acceptRanges), ("unicode/utf8.first", laid_unicode_utf8_first)], narrowed := true }
def DropSameUptoSaid : Prop := dropSameUptoRow.holds Tryd.pinned (OpenSpec.upto dropSameSpec)

/-- 'sentrylaw18.DropKeeps', WHERE WHAT IT READS IS OF BULK AT MOST 1048576: true; the input reads as it did. -/
def dropKeepsUptoRow : OpenClaim := { program := "ytkllfdfipkcddaadoor", sum := "f0383cbbcb93dbaf655543ea385cc67bc2fb107a940d79e48b45b443f9ffe2fd", func := "sentry/sentrylaw18.DropKeeps", spec := "dropKeeps", inPlace := ["internal/bytealg.CountString", "internal/bytealg.IndexByteString", "internal/bytealg.IndexString", "internal/abi.NoEscape", "internal/bytealg.MakeNoZero"], unfollowed := true, recurses := true, named := ["internal/bytealg.MaxLen", "unicode/utf8.first", "unicode/utf8.acceptRanges"], apart := false, laid := [("unicode/utf8.acceptRanges", laid_unicode_utf8_acceptRanges), ("unicode/utf8.first", laid_unicode_utf8_first)], narrowed := true }
def DropKeepsUptoSaid : Prop := dropKeepsUptoRow.holds Tryd.pinned (OpenSpec.upto dropKeepsSpec)

/-- 'sentrylaw18.DropRefuses', WHERE WHAT IT READS IS OF BULK AT MOST 1048576: true; the input reads as it did. -/
def dropRefusesUptoRow : OpenClaim := { program := "ytkllfdfipkcddaadoor", sum := "f0383cbbcb93dbaf655543ea385cc67bc2fb107a940d79e48b45b443f9ffe2fd", func := "sentry/sentrylaw18.DropRefuses", spec := "dropRefuses", inPlace := ["internal/bytealg.CountString", "internal/bytealg.IndexByteString", "internal/bytealg.IndexString", "internal/abi.NoEscape", "internal/bytealg.MakeNoZero"], unfollowed := true, recurses := true, named := ["internal/bytealg.MaxLen", "unicode/utf8.first", "unicode/utf8.acceptRanges"], apart := false, laid := [("unicode/utf8.acceptRanges", laid_unicode_utf8_acceptRanges), ("unicode/utf8.first", laid_unicode_utf8_first)], narrowed := true }
def DropRefusesUptoSaid : Prop := dropRefusesUptoRow.holds Tryd.pinned (OpenSpec.upto dropRefusesSpec)

end Rows
end Go.Proofs.YtkllfdfipkcddaaDoor
