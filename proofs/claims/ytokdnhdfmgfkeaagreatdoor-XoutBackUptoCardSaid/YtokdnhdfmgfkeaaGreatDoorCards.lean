/-
  DERIVED. GIVEN WITH THE SEED: THE CARDS: each row of YtokdnhdfmgfkeaaGreatDoorRows.lean that lists a variable, with what it lists TIED to the program's text (the seventh form; the later family's looks); each row that meets fmt, with fmt's text TOLD by the authors' own Lean function (tested against real Go, not proved from fmt's source: count such statements apart). THE CARD IS WHAT COUNTS. Prove the row's statement (the work); the ties are given (YtokdnhdfmgfkeaaGreatDoorTie.lean); close each card by the builder's one call (the guide's Derived/Test/ToyasCard.lean, 'card_holds'). Laid BY PROGRAM, IN A SANDBOX (cutbox-door.mjs). By AI agents, Wed Nov 11 2026. No macro, syntax, notation, axiom, sorry.
-/
import Derived.Test.YtokdnhdfmgfkeaaGreatDoorRows
import GoSem.ClaimSeven
namespace Go.Proofs.YtokdnhdfmgfkeaaGreatDoor
namespace Rows

/-- THE TIED CARD OF 'recensionlaw11.XoutWrites'. -/
def xoutWritesCard : Claim7 := { stood := { row := xoutWritesRow, standIns := [], harness := (true, "e775c7d3ecfbecb7beda50ce24658cb13af17d066760e66c1e998ed8badf6809"), looks := true }, kinds := [], alts := [], laidByText := true, laidKinds := [.data, .handle, .pinned, .pinned], laidTests := true, laidLooks := .later }
def XoutWritesCardSaid : Prop := Claim7.holds Tryz.pinned (.plain (OpenSpec.ofChange xoutWritesSpec)) xoutWritesCard

/-- THE TIED CARD OF 'recensionlaw10.XtreeParses'. -/
def xtreeParsesCard : Claim7 := { stood := { row := xtreeParsesRow, standIns := [], harness := (true, "e775c7d3ecfbecb7beda50ce24658cb13af17d066760e66c1e998ed8badf6809"), looks := true }, kinds := [], alts := [], laidByText := true, laidKinds := [.data, .handle, .data, .data, .pinned, .pinned], laidTests := true, laidLooks := .later }
def XtreeParsesCardSaid : Prop := Claim7.holds Tryz.pinned (.plain (OpenSpec.ofChange xtreeParsesSpec)) xtreeParsesCard

/-- THE TIED CARD OF 'recensionlaw10.XtreeBounds'. -/
def xtreeBoundsCard : Claim7 := { stood := { row := xtreeBoundsRow, standIns := [], harness := (true, "e775c7d3ecfbecb7beda50ce24658cb13af17d066760e66c1e998ed8badf6809"), looks := true }, kinds := [], alts := [], laidByText := true, laidKinds := [.data, .handle, .data, .data, .pinned, .pinned], laidTests := true, laidLooks := .later }
def XtreeBoundsCardSaid : Prop := Claim7.holds Tryz.pinned (.plain (OpenSpec.ofChange xtreeBoundsSpec)) xtreeBoundsCard

/-- THE TIED CARD OF 'recensionlaw10.XtreeDeep'. -/
def xtreeDeepCard : Claim7 := { stood := { row := xtreeDeepRow, standIns := [], harness := (true, "e775c7d3ecfbecb7beda50ce24658cb13af17d066760e66c1e998ed8badf6809"), looks := true }, kinds := [], alts := [], laidByText := true, laidKinds := [.data, .handle, .data, .data, .pinned, .pinned], laidTests := true, laidLooks := .later }
def XtreeDeepCardSaid : Prop := Claim7.holds Tryz.pinned (.plain (OpenSpec.ofChange xtreeDeepSpec)) xtreeDeepCard

/-- THE TIED CARD OF 'recensionlaw10.XtreeTells'. -/
def xtreeTellsCard : Claim7 := { stood := { row := xtreeTellsRow, standIns := [], harness := (true, "e775c7d3ecfbecb7beda50ce24658cb13af17d066760e66c1e998ed8badf6809"), looks := true }, kinds := [], alts := [], laidByText := true, laidKinds := [.data, .handle, .data, .data, .pinned, .pinned], laidTests := true, laidLooks := .later }
def XtreeTellsCardSaid : Prop := Claim7.holds Tryz.pinned (.plain (OpenSpec.ofChange xtreeTellsSpec)) xtreeTellsCard

/-- THE TIED CARD OF 'recensionlaw11.XoutBack'. -/
def xoutBackCard : Claim7 := { stood := { row := xoutBackRow, standIns := [], harness := (true, "e775c7d3ecfbecb7beda50ce24658cb13af17d066760e66c1e998ed8badf6809"), looks := true }, kinds := [], alts := [], laidByText := true, laidKinds := [.data, .handle, .data, .data, .pinned, .pinned], laidTests := true, laidLooks := .later }
def XoutBackCardSaid : Prop := Claim7.holds Tryz.pinned (.plain (OpenSpec.ofChange xoutBackSpec)) xoutBackCard

/-- THE TIED CARD OF 'recensionlaw11.XoutParsed'. -/
def xoutParsedCard : Claim7 := { stood := { row := xoutParsedRow, standIns := [], harness := (true, "e775c7d3ecfbecb7beda50ce24658cb13af17d066760e66c1e998ed8badf6809"), looks := true }, kinds := [], alts := [], laidByText := true, laidKinds := [.data, .handle, .data, .data, .pinned, .pinned], laidTests := true, laidLooks := .later }
def XoutParsedCardSaid : Prop := Claim7.holds Tryz.pinned (.plain (OpenSpec.ofChange xoutParsedSpec)) xoutParsedCard

/-- THE TIED CARD OF 'recensionlaw11.XoutTexts'. -/
def xoutTextsCard : Claim7 := { stood := { row := xoutTextsRow, standIns := [], harness := (true, "e775c7d3ecfbecb7beda50ce24658cb13af17d066760e66c1e998ed8badf6809"), looks := true }, kinds := [], alts := [], laidByText := true, laidKinds := [.data, .handle, .data, .data, .pinned, .pinned], laidTests := true, laidLooks := .later }
def XoutTextsCardSaid : Prop := Claim7.holds Tryz.pinned (.plain (OpenSpec.ofChange xoutTextsSpec)) xoutTextsCard

/-- THE SECOND FORM's CARD OF 'recensionlaw11.XoutWrites'. -/
def xoutWritesUptoCard : Claim7 := { stood := { row := xoutWritesUptoRow, standIns := [], harness := (true, "e775c7d3ecfbecb7beda50ce24658cb13af17d066760e66c1e998ed8badf6809"), looks := true }, kinds := [], alts := [], laidByText := true, laidKinds := [.data, .handle, .pinned, .pinned], laidTests := true, laidLooks := .later }
def XoutWritesUptoCardSaid : Prop := Claim7.holds Tryz.pinned (.plain (OpenSpec.upto xoutWritesSpec)) xoutWritesUptoCard

/-- THE SECOND FORM's CARD OF 'recensionlaw10.XtreeParses'. -/
def xtreeParsesUptoCard : Claim7 := { stood := { row := xtreeParsesUptoRow, standIns := [], harness := (true, "e775c7d3ecfbecb7beda50ce24658cb13af17d066760e66c1e998ed8badf6809"), looks := true }, kinds := [], alts := [], laidByText := true, laidKinds := [.data, .handle, .data, .data, .pinned, .pinned], laidTests := true, laidLooks := .later }
def XtreeParsesUptoCardSaid : Prop := Claim7.holds Tryz.pinned (.plain (OpenSpec.upto xtreeParsesSpec)) xtreeParsesUptoCard

/-- THE SECOND FORM's CARD OF 'recensionlaw10.XtreeBounds'. -/
def xtreeBoundsUptoCard : Claim7 := { stood := { row := xtreeBoundsUptoRow, standIns := [], harness := (true, "e775c7d3ecfbecb7beda50ce24658cb13af17d066760e66c1e998ed8badf6809"), looks := true }, kinds := [], alts := [], laidByText := true, laidKinds := [.data, .handle, .data, .data, .pinned, .pinned], laidTests := true, laidLooks := .later }
def XtreeBoundsUptoCardSaid : Prop := Claim7.holds Tryz.pinned (.plain (OpenSpec.upto xtreeBoundsSpec)) xtreeBoundsUptoCard

/-- THE SECOND FORM's CARD OF 'recensionlaw10.XtreeDeep'. -/
def xtreeDeepUptoCard : Claim7 := { stood := { row := xtreeDeepUptoRow, standIns := [], harness := (true, "e775c7d3ecfbecb7beda50ce24658cb13af17d066760e66c1e998ed8badf6809"), looks := true }, kinds := [], alts := [], laidByText := true, laidKinds := [.data, .handle, .data, .data, .pinned, .pinned], laidTests := true, laidLooks := .later }
def XtreeDeepUptoCardSaid : Prop := Claim7.holds Tryz.pinned (.plain (OpenSpec.upto xtreeDeepSpec)) xtreeDeepUptoCard

/-- THE SECOND FORM's CARD OF 'recensionlaw10.XtreeTells'. -/
def xtreeTellsUptoCard : Claim7 := { stood := { row := xtreeTellsUptoRow, standIns := [], harness := (true, "e775c7d3ecfbecb7beda50ce24658cb13af17d066760e66c1e998ed8badf6809"), looks := true }, kinds := [], alts := [], laidByText := true, laidKinds := [.data, .handle, .data, .data, .pinned, .pinned], laidTests := true, laidLooks := .later }
def XtreeTellsUptoCardSaid : Prop := Claim7.holds Tryz.pinned (.plain (OpenSpec.upto xtreeTellsSpec)) xtreeTellsUptoCard

/-- THE SECOND FORM's CARD OF 'recensionlaw11.XoutBack'. -/
def xoutBackUptoCard : Claim7 := { stood := { row := xoutBackUptoRow, standIns := [], harness := (true, "e775c7d3ecfbecb7beda50ce24658cb13af17d066760e66c1e998ed8badf6809"), looks := true }, kinds := [], alts := [], laidByText := true, laidKinds := [.data, .handle, .data, .data, .pinned, .pinned], laidTests := true, laidLooks := .later }
def XoutBackUptoCardSaid : Prop := Claim7.holds Tryz.pinned (.plain (OpenSpec.upto xoutBackSpec)) xoutBackUptoCard

/-- THE SECOND FORM's CARD OF 'recensionlaw11.XoutParsed'. -/
def xoutParsedUptoCard : Claim7 := { stood := { row := xoutParsedUptoRow, standIns := [], harness := (true, "e775c7d3ecfbecb7beda50ce24658cb13af17d066760e66c1e998ed8badf6809"), looks := true }, kinds := [], alts := [], laidByText := true, laidKinds := [.data, .handle, .data, .data, .pinned, .pinned], laidTests := true, laidLooks := .later }
def XoutParsedUptoCardSaid : Prop := Claim7.holds Tryz.pinned (.plain (OpenSpec.upto xoutParsedSpec)) xoutParsedUptoCard

/-- THE SECOND FORM's CARD OF 'recensionlaw11.XoutTexts'. -/
def xoutTextsUptoCard : Claim7 := { stood := { row := xoutTextsUptoRow, standIns := [], harness := (true, "e775c7d3ecfbecb7beda50ce24658cb13af17d066760e66c1e998ed8badf6809"), looks := true }, kinds := [], alts := [], laidByText := true, laidKinds := [.data, .handle, .data, .data, .pinned, .pinned], laidTests := true, laidLooks := .later }
def XoutTextsUptoCardSaid : Prop := Claim7.holds Tryz.pinned (.plain (OpenSpec.upto xoutTextsSpec)) xoutTextsUptoCard
end Rows
end Go.Proofs.YtokdnhdfmgfkeaaGreatDoor
