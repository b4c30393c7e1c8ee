/-
  DERIVED. GIVEN WITH THE SEED: THE CARDS: each row of YtmmeofiocbfamaaDoorRows.lean that lists a variable, with what it lists TIED to the program's text (the seventh form; the later family's looks); each row that meets fmt, with fmt's text TOLD by the authors' own Lean function (tested against real Go, not proved from fmt's source: count such statements apart). THE CARD IS WHAT COUNTS. Prove the row's statement (the work); the ties are given (YtmmeofiocbfamaaDoorTie.lean); close each card by the builder's one call (the guide's Derived/Test/ToyasCard.lean, 'card_holds'). Laid BY PROGRAM, IN A SANDBOX (cutbox-door.mjs). By AI agents, Wed Nov 11 2026. No macro, syntax, notation, axiom, sorry.
-/
import Derived.Test.YtmmeofiocbfamaaDoorRows
import GoSem.ClaimSeven
namespace Go.Proofs.YtmmeofiocbfamaaDoor
namespace Rows

/-- THE TIED CARD OF 'sentrylaw14.TableSpoilt'. -/
def tableSpoiltCard : Claim7 := { stood := { row := tableSpoiltRow, standIns := [], harness := (true, "f3fbe9396ce3af1438c4bd7b12ee9586a9366d3512ad10d94fcce1f084d58eb9"), looks := false }, kinds := [], alts := [], laidByText := true, laidKinds := [.data, .pinned], laidTests := true, laidLooks := .later }
def TableSpoiltCardSaid : Prop := Claim7.holds Tryd.pinned (.plain (OpenSpec.ofChange tableSpoiltSpec)) tableSpoiltCard

/-- THE TIED CARD OF 'sentrylaw14.TableSame'. -/
def tableSameCard : Claim7 := { stood := { row := tableSameRow, standIns := [], harness := (true, "f3fbe9396ce3af1438c4bd7b12ee9586a9366d3512ad10d94fcce1f084d58eb9"), looks := false }, kinds := [], alts := [], laidByText := true, laidKinds := [.data, .pinned], laidTests := true, laidLooks := .later }
def TableSameCardSaid : Prop := Claim7.holds Tryd.pinned (.plain (OpenSpec.ofChange tableSameSpec)) tableSameCard

/-- THE TIED CARD OF 'sentrylaw14.TableNil'. -/
def tableNilCard : Claim7 := { stood := { row := tableNilRow, standIns := [], harness := (true, "f3fbe9396ce3af1438c4bd7b12ee9586a9366d3512ad10d94fcce1f084d58eb9"), looks := false }, kinds := [], alts := [], laidByText := true, laidKinds := [.data, .pinned], laidTests := true, laidLooks := .later }
def TableNilCardSaid : Prop := Claim7.holds Tryd.pinned (.plain (OpenSpec.ofChange tableNilSpec)) tableNilCard

/-- THE SECOND FORM's CARD OF 'sentrylaw14.TableSpoilt'. -/
def tableSpoiltUptoCard : Claim7 := { stood := { row := tableSpoiltUptoRow, standIns := [], harness := (true, "f3fbe9396ce3af1438c4bd7b12ee9586a9366d3512ad10d94fcce1f084d58eb9"), looks := false }, kinds := [], alts := [], laidByText := true, laidKinds := [.data, .pinned], laidTests := true, laidLooks := .later }
def TableSpoiltUptoCardSaid : Prop := Claim7.holds Tryd.pinned (.plain (OpenSpec.upto tableSpoiltSpec)) tableSpoiltUptoCard

/-- THE SECOND FORM's CARD OF 'sentrylaw14.TableSame'. -/
def tableSameUptoCard : Claim7 := { stood := { row := tableSameUptoRow, standIns := [], harness := (true, "f3fbe9396ce3af1438c4bd7b12ee9586a9366d3512ad10d94fcce1f084d58eb9"), looks := false }, kinds := [], alts := [], laidByText := true, laidKinds := [.data, .pinned], laidTests := true, laidLooks := .later }
def TableSameUptoCardSaid : Prop := Claim7.holds Tryd.pinned (.plain (OpenSpec.upto tableSameSpec)) tableSameUptoCard

/-- THE SECOND FORM's CARD OF 'sentrylaw14.TableNil'. -/
def tableNilUptoCard : Claim7 := { stood := { row := tableNilUptoRow, standIns := [], harness := (true, "f3fbe9396ce3af1438c4bd7b12ee9586a9366d3512ad10d94fcce1f084d58eb9"), looks := false }, kinds := [], alts := [], laidByText := true, laidKinds := [.data, .pinned], laidTests := true, laidLooks := .later }
def TableNilUptoCardSaid : Prop := Claim7.holds Tryd.pinned (.plain (OpenSpec.upto tableNilSpec)) tableNilUptoCard
end Rows
end Go.Proofs.YtmmeofiocbfamaaDoor
