/-
  DERIVED. GIVEN WITH THE SEED: THE CARDS: each row of YtkllfdfipkcddaaDoorRows.lean that lists a variable, with what it lists TIED to the program's text (the seventh form; the later family's looks); each row that meets fmt, with fmt's text TOLD by the authors' own Lean function (tested against real Go, not proved from fmt's source: count such statements apart). THE CARD IS WHAT COUNTS. Prove the row's statement (the work); the ties are given (YtkllfdfipkcddaaDoorTie.lean); close each card by the builder's one call (the guide's Derived/Test/ToyasCard.lean, 'card_holds'). Laid BY PROGRAM, IN A SANDBOX (cutbox-door.mjs). By AI agents, Wed Nov 11 2026. No macro, syntax, notation, axiom, sorry.
-/
import Derived.Test.YtkllfdfipkcddaaDoorRows
import GoSem.ClaimSeven
namespace Go.Proofs.YtkllfdfipkcddaaDoor
namespace Rows

/-- THE TIED CARD OF 'sentrylaw02.CodecNumbers'. -/
def codecNumbersCard : Claim7 := { stood := { row := codecNumbersRow, standIns := [], harness := (true, "9fc8c6c89ef438ca72bd33220cf011fee129c0e0438d23a49d2fc4310623e10f"), looks := false }, kinds := [], alts := [], laidByText := true, laidKinds := [.data, .pinned], laidTests := true, laidLooks := .later }
def CodecNumbersCardSaid : Prop := Claim7.holds Tryd.pinned (.plain (OpenSpec.ofChange codecNumbersSpec)) codecNumbersCard

/-- THE TIED CARD OF 'sentrylaw02.CodecOrder'. -/
def codecOrderCard : Claim7 := { stood := { row := codecOrderRow, standIns := [], harness := (true, "9fc8c6c89ef438ca72bd33220cf011fee129c0e0438d23a49d2fc4310623e10f"), looks := false }, kinds := [], alts := [], laidByText := true, laidKinds := [.data, .pinned], laidTests := true, laidLooks := .later }
def CodecOrderCardSaid : Prop := Claim7.holds Tryd.pinned (.plain (OpenSpec.ofChange codecOrderSpec)) codecOrderCard

/-- THE TIED CARD OF 'sentrylaw02.CodecTexts'. -/
def codecTextsCard : Claim7 := { stood := { row := codecTextsRow, standIns := [], harness := (true, "9fc8c6c89ef438ca72bd33220cf011fee129c0e0438d23a49d2fc4310623e10f"), looks := false }, kinds := [], alts := [], laidByText := true, laidKinds := [.data, .pinned], laidTests := true, laidLooks := .later }
def CodecTextsCardSaid : Prop := Claim7.holds Tryd.pinned (.plain (OpenSpec.ofChange codecTextsSpec)) codecTextsCard

/-- THE TIED CARD OF 'sentrylaw02.CodecInner'. -/
def codecInnerCard : Claim7 := { stood := { row := codecInnerRow, standIns := [], harness := (true, "9fc8c6c89ef438ca72bd33220cf011fee129c0e0438d23a49d2fc4310623e10f"), looks := false }, kinds := [], alts := [], laidByText := true, laidKinds := [.data, .pinned], laidTests := true, laidLooks := .later }
def CodecInnerCardSaid : Prop := Claim7.holds Tryd.pinned (.plain (OpenSpec.ofChange codecInnerSpec)) codecInnerCard

/-- THE TIED CARD OF 'sentrylaw02.CodecOuter'. -/
def codecOuterCard : Claim7 := { stood := { row := codecOuterRow, standIns := [], harness := (true, "9fc8c6c89ef438ca72bd33220cf011fee129c0e0438d23a49d2fc4310623e10f"), looks := false }, kinds := [], alts := [], laidByText := true, laidKinds := [.data, .pinned], laidTests := true, laidLooks := .later }
def CodecOuterCardSaid : Prop := Claim7.holds Tryd.pinned (.plain (OpenSpec.ofChange codecOuterSpec)) codecOuterCard

/-- THE TIED CARD OF 'sentrylaw18.DropTwice'. -/
def dropTwiceCard : Claim7 := { stood := { row := dropTwiceRow, standIns := [], harness := (true, "9fc8c6c89ef438ca72bd33220cf011fee129c0e0438d23a49d2fc4310623e10f"), looks := false }, kinds := [], alts := [], laidByText := true, laidKinds := [.data, .pinned], laidTests := true, laidLooks := .later }
def DropTwiceCardSaid : Prop := Claim7.holds Tryd.pinned (.plain (OpenSpec.ofChange dropTwiceSpec)) dropTwiceCard

/-- THE TIED CARD OF 'sentrylaw18.DropSame'. -/
def dropSameCard : Claim7 := { stood := { row := dropSameRow, standIns := [], harness := (true, "9fc8c6c89ef438ca72bd33220cf011fee129c0e0438d23a49d2fc4310623e10f"), looks := false }, kinds := [], alts := [], laidByText := true, laidKinds := [.data, .pinned], laidTests := true, laidLooks := .later }
def DropSameCardSaid : Prop := Claim7.holds Tryd.pinned (.plain (OpenSpec.ofChange dropSameSpec)) dropSameCard

/-- THE TIED CARD OF 'sentrylaw18.DropKeeps'. -/
def dropKeepsCard : Claim7 := { stood := { row := dropKeepsRow, standIns := [], harness := (true, "9fc8c6c89ef438ca72bd33220cf011fee129c0e0438d23a49d2fc4310623e10f"), looks := false }, kinds := [], alts := [], laidByText := true, laidKinds := [.data, .pinned], laidTests := true, laidLooks := .later }
def DropKeepsCardSaid : Prop := Claim7.holds Tryd.pinned (.plain (OpenSpec.ofChange dropKeepsSpec)) dropKeepsCard

/-- THE TIED CARD OF 'sentrylaw18.DropRefuses'. -/
def dropRefusesCard : Claim7 := { stood := { row := dropRefusesRow, standIns := [], harness := (true, "9fc8c6c89ef438ca72bd33220cf011fee129c0e0438d23a49d2fc4310623e10f"), looks := false }, kinds := [], alts := [], laidByText := true, laidKinds := [.data, .pinned], laidTests := true, laidLooks := .later }
def DropRefusesCardSaid : Prop := Claim7.holds Tryd.pinned (.plain (OpenSpec.ofChange dropRefusesSpec)) dropRefusesCard

/-- THE SECOND FORM's CARD OF 'sentrylaw02.CodecNumbers'. -/
def codecNumbersUptoCard : Claim7 := { stood := { row := codecNumbersUptoRow, standIns := [], harness := (true, "9fc8c6c89ef438ca72bd33220cf011fee129c0e0438d23a49d2fc4310623e10f"), looks := false }, kinds := [], alts := [], laidByText := true, laidKinds := [.data, .pinned], laidTests := true, laidLooks := .later }
def CodecNumbersUptoCardSaid : Prop := Claim7.holds Tryd.pinned (.plain (OpenSpec.upto codecNumbersSpec)) codecNumbersUptoCard

/-- THE SECOND FORM's CARD OF 'sentrylaw02.CodecOrder'. -/
def codecOrderUptoCard : Claim7 := { stood := { row := codecOrderUptoRow, standIns := [], harness := (true, "9fc8c6c89ef438ca72bd33220cf011fee129c0e0438d23a49d2fc4310623e10f"), looks := false }, kinds := [], alts := [], laidByText := true, laidKinds := [.data, .pinned], laidTests := true, laidLooks := .later }
def CodecOrderUptoCardSaid : Prop := Claim7.holds Tryd.pinned (.plain (OpenSpec.upto codecOrderSpec)) codecOrderUptoCard

/-- THE SECOND FORM's CARD OF 'sentrylaw02.CodecTexts'. -/
def codecTextsUptoCard : Claim7 := { stood := { row := codecTextsUptoRow, standIns := [], harness := (true, "9fc8c6c89ef438ca72bd33220cf011fee129c0e0438d23a49d2fc4310623e10f"), looks := false }, kinds := [], alts := [], laidByText := true, laidKinds := [.data, .pinned], laidTests := true, laidLooks := .later }
def CodecTextsUptoCardSaid : Prop := Claim7.holds Tryd.pinned (.plain (OpenSpec.upto codecTextsSpec)) codecTextsUptoCard

/-- THE SECOND FORM's CARD OF 'sentrylaw02.CodecInner'. -/
def codecInnerUptoCard : Claim7 := { stood := { row := codecInnerUptoRow, standIns := [], harness := (true, "9fc8c6c89ef438ca72bd33220cf011fee129c0e0438d23a49d2fc4310623e10f"), looks := false }, kinds := [], alts := [], laidByText := true, laidKinds := [.data, .pinned], laidTests := true, laidLooks := .later }
def CodecInnerUptoCardSaid : Prop := Claim7.holds Tryd.pinned (.plain (OpenSpec.upto codecInnerSpec)) codecInnerUptoCard

/-- THE SECOND FORM's CARD OF 'sentrylaw02.CodecOuter'. -/
def codecOuterUptoCard : Claim7 := { stood := { row := codecOuterUptoRow, standIns := [], harness := (true, "9fc8c6c89ef438ca72bd33220cf011fee129c0e0438d23a49d2fc4310623e10f"), looks := false }, kinds := [], alts := [], laidByText := true, laidKinds := [.data, .pinned], laidTests := true, laidLooks := .later }
def CodecOuterUptoCardSaid : Prop := Claim7.holds Tryd.pinned (.plain (OpenSpec.upto codecOuterSpec)) codecOuterUptoCard

/-- THE SECOND FORM's CARD OF 'sentrylaw18.DropTwice'. -/
def dropTwiceUptoCard : Claim7 := { stood := { row := dropTwiceUptoRow, standIns := [], harness := (true, "9fc8c6c89ef438ca72bd33220cf011fee129c0e0438d23a49d2fc4310623e10f"), looks := false }, kinds := [], alts := [], laidByText := true, laidKinds := [.data, .pinned], laidTests := true, laidLooks := .later }
def DropTwiceUptoCardSaid : Prop := Claim7.holds Tryd.pinned (.plain (OpenSpec.upto dropTwiceSpec)) dropTwiceUptoCard

/-- THE SECOND FORM's CARD OF 'sentrylaw18.DropSame'. -/
def dropSameUptoCard : Claim7 := { stood := { row := dropSameUptoRow, standIns := [], harness := (true, "9fc8c6c89ef438ca72bd33220cf011fee129c0e0438d23a49d2fc4310623e10f"), looks := false }, kinds := [], alts := [], laidByText := true, laidKinds := [.data, .pinned], laidTests := true, laidLooks := .later }
def DropSameUptoCardSaid : Prop := Claim7.holds Tryd.pinned (.plain (OpenSpec.upto dropSameSpec)) dropSameUptoCard

/-- THE SECOND FORM's CARD OF 'sentrylaw18.DropKeeps'. -/
def dropKeepsUptoCard : Claim7 := { stood := { row := dropKeepsUptoRow, standIns := [], harness := (true, "9fc8c6c89ef438ca72bd33220cf011fee129c0e0438d23a49d2fc4310623e10f"), looks := false }, kinds := [], alts := [], laidByText := true, laidKinds := [.data, .pinned], laidTests := true, laidLooks := .later }
def DropKeepsUptoCardSaid : Prop := Claim7.holds Tryd.pinned (.plain (OpenSpec.upto dropKeepsSpec)) dropKeepsUptoCard

/-- THE SECOND FORM's CARD OF 'sentrylaw18.DropRefuses'. -/
def dropRefusesUptoCard : Claim7 := { stood := { row := dropRefusesUptoRow, standIns := [], harness := (true, "9fc8c6c89ef438ca72bd33220cf011fee129c0e0438d23a49d2fc4310623e10f"), looks := false }, kinds := [], alts := [], laidByText := true, laidKinds := [.data, .pinned], laidTests := true, laidLooks := .later }
def DropRefusesUptoCardSaid : Prop := Claim7.holds Tryd.pinned (.plain (OpenSpec.upto dropRefusesSpec)) dropRefusesUptoCard
end Rows
end Go.Proofs.YtkllfdfipkcddaaDoor
