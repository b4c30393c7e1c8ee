/-
  DERIVED. GIVEN WITH THE SEED: THE CARDS: each row of YtcglegipdlaoiaaDoorRows.lean that lists a variable, with what it lists TIED to the program's text (the seventh form; the later family's looks); each row that meets fmt, with fmt's text TOLD by the authors' own Lean function (tested against real Go, not proved from fmt's source: count such statements apart). THE CARD IS WHAT COUNTS. Prove the row's statement (the work); the ties are given (YtcglegipdlaoiaaDoorTie.lean); close each card by the builder's one call (the guide's Derived/Test/ToyasCard.lean, 'card_holds'). Laid BY PROGRAM, IN A SANDBOX (cutbox-door.mjs). By AI agents, Wed Nov 11 2026. No macro, syntax, notation, axiom, sorry.
-/
import Derived.Test.YtcglegipdlaoiaaDoorRows
import GoSem.ClaimSeven
namespace Go.Proofs.YtcglegipdlaoiaaDoor
namespace Rows

/-- THE TIED CARD OF 'sentrylaw19.IterGets'. -/
def iterGetsCard : Claim7 := { stood := { row := iterGetsRow, standIns := [], harness := (true, "0ea50f01288b1c1a2cdfc830acc1ca4a865c31c3ff33b680ff9ffa045d915656"), looks := false }, kinds := [], alts := [], laidByText := true, laidKinds := [.data, .pinned], laidTests := true, laidLooks := .later }
def IterGetsCardSaid : Prop := Claim7.holds Tryd.pinned (.plain (OpenSpec.ofChange iterGetsSpec)) iterGetsCard

/-- THE TIED CARD OF 'sentrylaw19.IterScans'. -/
def iterScansCard : Claim7 := { stood := { row := iterScansRow, standIns := [], harness := (true, "0ea50f01288b1c1a2cdfc830acc1ca4a865c31c3ff33b680ff9ffa045d915656"), looks := false }, kinds := [], alts := [], laidByText := true, laidKinds := [.data, .pinned], laidTests := true, laidLooks := .later }
def IterScansCardSaid : Prop := Claim7.holds Tryd.pinned (.plain (OpenSpec.ofChange iterScansSpec)) iterScansCard

/-- THE TIED CARD OF 'sentrylaw19.IterParted'. -/
def iterPartedCard : Claim7 := { stood := { row := iterPartedRow, standIns := [], harness := (true, "0ea50f01288b1c1a2cdfc830acc1ca4a865c31c3ff33b680ff9ffa045d915656"), looks := false }, kinds := [], alts := [], laidByText := true, laidKinds := [.data, .pinned], laidTests := true, laidLooks := .later }
def IterPartedCardSaid : Prop := Claim7.holds Tryd.pinned (.plain (OpenSpec.ofChange iterPartedSpec)) iterPartedCard

/-- THE TIED CARD OF 'sentrylaw19.IterRows'. -/
def iterRowsCard : Claim7 := { stood := { row := iterRowsRow, standIns := [], harness := (true, "0ea50f01288b1c1a2cdfc830acc1ca4a865c31c3ff33b680ff9ffa045d915656"), looks := false }, kinds := [], alts := [], laidByText := true, laidKinds := [.data, .pinned], laidTests := true, laidLooks := .later }
def IterRowsCardSaid : Prop := Claim7.holds Tryd.pinned (.plain (OpenSpec.ofChange iterRowsSpec)) iterRowsCard

/-- THE SECOND FORM's CARD OF 'sentrylaw19.IterGets'. -/
def iterGetsUptoCard : Claim7 := { stood := { row := iterGetsUptoRow, standIns := [], harness := (true, "0ea50f01288b1c1a2cdfc830acc1ca4a865c31c3ff33b680ff9ffa045d915656"), looks := false }, kinds := [], alts := [], laidByText := true, laidKinds := [.data, .pinned], laidTests := true, laidLooks := .later }
def IterGetsUptoCardSaid : Prop := Claim7.holds Tryd.pinned (.plain (OpenSpec.upto iterGetsSpec)) iterGetsUptoCard

/-- THE SECOND FORM's CARD OF 'sentrylaw19.IterScans'. -/
def iterScansUptoCard : Claim7 := { stood := { row := iterScansUptoRow, standIns := [], harness := (true, "0ea50f01288b1c1a2cdfc830acc1ca4a865c31c3ff33b680ff9ffa045d915656"), looks := false }, kinds := [], alts := [], laidByText := true, laidKinds := [.data, .pinned], laidTests := true, laidLooks := .later }
def IterScansUptoCardSaid : Prop := Claim7.holds Tryd.pinned (.plain (OpenSpec.upto iterScansSpec)) iterScansUptoCard

/-- THE SECOND FORM's CARD OF 'sentrylaw19.IterParted'. -/
def iterPartedUptoCard : Claim7 := { stood := { row := iterPartedUptoRow, standIns := [], harness := (true, "0ea50f01288b1c1a2cdfc830acc1ca4a865c31c3ff33b680ff9ffa045d915656"), looks := false }, kinds := [], alts := [], laidByText := true, laidKinds := [.data, .pinned], laidTests := true, laidLooks := .later }
def IterPartedUptoCardSaid : Prop := Claim7.holds Tryd.pinned (.plain (OpenSpec.upto iterPartedSpec)) iterPartedUptoCard

/-- THE SECOND FORM's CARD OF 'sentrylaw19.IterRows'. -/
def iterRowsUptoCard : Claim7 := { stood := { row := iterRowsUptoRow, standIns := [], harness := (true, "0ea50f01288b1c1a2cdfc830acc1ca4a865c31c3ff33b680ff9ffa045d915656"), looks := false }, kinds := [], alts := [], laidByText := true, laidKinds := [.data, .pinned], laidTests := true, laidLooks := .later }
def IterRowsUptoCardSaid : Prop := Claim7.holds Tryd.pinned (.plain (OpenSpec.upto iterRowsSpec)) iterRowsUptoCard
end Rows
end Go.Proofs.YtcglegipdlaoiaaDoor
