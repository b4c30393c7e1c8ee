/-
  DERIVED. GIVEN WITH THE SEED: THE CARDS: each row of YtmmeofiocbfamaaGreatDoorRows.lean that lists a variable, with what it lists TIED to the program's text (the seventh form; the later family's looks); each row that meets fmt, with fmt's text TOLD by the authors' own Lean function (tested against real Go, not proved from fmt's source: count such statements apart). THE CARD IS WHAT COUNTS. Prove the row's statement (the work); the ties are given (YtmmeofiocbfamaaGreatDoorTie.lean); close each card by the builder's one call (the guide's Derived/Test/ToyasCard.lean, 'card_holds'). Laid BY PROGRAM, IN A SANDBOX (cutbox-door.mjs). By AI agents, Wed Nov 11 2026. No macro, syntax, notation, axiom, sorry.
-/
import Derived.Test.YtmmeofiocbfamaaGreatDoorRows
import GoSem.ClaimSeven
namespace Go.Proofs.YtmmeofiocbfamaaGreatDoor
namespace Rows

/-- THE TIED CARD OF 'sentrylaw14.TableBuilds'. -/
def tableBuildsCard : Claim7 := { stood := { row := tableBuildsRow, standIns := [], harness := (true, "cda8b584a18cc05ba76436f55785dc934838f3e285353fe7a3da4c2a6932067e"), looks := false }, kinds := [], alts := [], laidByText := true, laidKinds := [.data, .pinned], laidTests := true, laidLooks := .later }
def TableBuildsCardSaid : Prop := Claim7.holds Tryz.pinned (.plain (OpenSpec.ofChange tableBuildsSpec)) tableBuildsCard

/-- THE TIED CARD OF 'sentrylaw14.TableTells'. -/
def tableTellsCard : Claim7 := { stood := { row := tableTellsRow, standIns := [], harness := (true, "cda8b584a18cc05ba76436f55785dc934838f3e285353fe7a3da4c2a6932067e"), looks := false }, kinds := [], alts := [], laidByText := true, laidKinds := [.data, .pinned], laidTests := true, laidLooks := .later }
def TableTellsCardSaid : Prop := Claim7.holds Tryz.pinned (.plain (OpenSpec.ofChange tableTellsSpec)) tableTellsCard

/-- THE SECOND FORM's CARD OF 'sentrylaw14.TableBuilds'. -/
def tableBuildsUptoCard : Claim7 := { stood := { row := tableBuildsUptoRow, standIns := [], harness := (true, "cda8b584a18cc05ba76436f55785dc934838f3e285353fe7a3da4c2a6932067e"), looks := false }, kinds := [], alts := [], laidByText := true, laidKinds := [.data, .pinned], laidTests := true, laidLooks := .later }
def TableBuildsUptoCardSaid : Prop := Claim7.holds Tryz.pinned (.plain (OpenSpec.upto tableBuildsSpec)) tableBuildsUptoCard

/-- THE SECOND FORM's CARD OF 'sentrylaw14.TableTells'. -/
def tableTellsUptoCard : Claim7 := { stood := { row := tableTellsUptoRow, standIns := [], harness := (true, "cda8b584a18cc05ba76436f55785dc934838f3e285353fe7a3da4c2a6932067e"), looks := false }, kinds := [], alts := [], laidByText := true, laidKinds := [.data, .pinned], laidTests := true, laidLooks := .later }
def TableTellsUptoCardSaid : Prop := Claim7.holds Tryz.pinned (.plain (OpenSpec.upto tableTellsSpec)) tableTellsUptoCard
end Rows
end Go.Proofs.YtmmeofiocbfamaaGreatDoor
