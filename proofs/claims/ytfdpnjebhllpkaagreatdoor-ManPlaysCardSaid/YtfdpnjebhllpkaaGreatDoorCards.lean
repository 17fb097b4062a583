/-
  DERIVED. GIVEN WITH THE SEED: THE CARDS: each row of YtfdpnjebhllpkaaGreatDoorRows.lean that lists a variable, with what it lists TIED to the program's text (the seventh form; the later family's looks); each row that meets fmt, with fmt's text TOLD by the authors' own Lean function (tested against real Go, not proved from fmt's source: count such statements apart). THE CARD IS WHAT COUNTS. Prove the row's statement (the work); the ties are given (YtfdpnjebhllpkaaGreatDoorTie.lean); close each card by the builder's one call (the guide's Derived/Test/ToyasCard.lean, 'card_holds'). Laid BY PROGRAM, IN A SANDBOX (cutbox-door.mjs). By AI agents, Wed Nov 11 2026. No macro, syntax, notation, axiom, sorry.
-/
import Derived.Test.YtfdpnjebhllpkaaGreatDoorRows
import GoSem.ClaimSeven
namespace Go.Proofs.YtfdpnjebhllpkaaGreatDoor
namespace Rows

/-- THE TIED CARD OF 'recensionlaw07.SegScans'. -/
def segScansCard : Claim7 := { stood := { row := segScansRow, standIns := [], harness := (true, "25855349dd2dd054179ee17f49e1611db8405dcbbc57c4371f45cc154971b819"), looks := true }, kinds := [], alts := [], laidByText := true, laidKinds := [.data, .data, .data, .data, .pinned], laidTests := true, laidLooks := .later }
def SegScansCardSaid : Prop := Claim7.holds Tryz.pinned (.plain (OpenSpec.ofChange segScansSpec)) segScansCard

/-- THE TIED CARD OF 'recensionlaw07.SegNames'. -/
def segNamesCard : Claim7 := { stood := { row := segNamesRow, standIns := [], harness := (true, "25855349dd2dd054179ee17f49e1611db8405dcbbc57c4371f45cc154971b819"), looks := true }, kinds := [], alts := [], laidByText := true, laidKinds := [.data, .data, .data, .data, .sentinel, .sentinel, .pinned], laidTests := true, laidLooks := .later }
def SegNamesCardSaid : Prop := Claim7.holds Tryz.pinned (.plain (OpenSpec.ofChange segNamesSpec)) segNamesCard

/-- THE TIED CARD OF 'recensionlaw07.SegLasts'. -/
def segLastsCard : Claim7 := { stood := { row := segLastsRow, standIns := [], harness := (true, "25855349dd2dd054179ee17f49e1611db8405dcbbc57c4371f45cc154971b819"), looks := true }, kinds := [], alts := [], laidByText := true, laidKinds := [.data, .data, .data, .data, .handle, .pinned], laidTests := true, laidLooks := .later }
def SegLastsCardSaid : Prop := Claim7.holds Tryz.pinned (.plain (OpenSpec.ofChange segLastsSpec)) segLastsCard

/-- THE TIED CARD OF 'recensionlaw07.SegPlays'. -/
def segPlaysCard : Claim7 := { stood := { row := segPlaysRow, standIns := [], harness := (true, "25855349dd2dd054179ee17f49e1611db8405dcbbc57c4371f45cc154971b819"), looks := true }, kinds := [], alts := [], laidByText := true, laidKinds := [.data, .data, .data, .data, .handle, .pinned], laidTests := true, laidLooks := .later }
def SegPlaysCardSaid : Prop := Claim7.holds Tryz.pinned (.plain (OpenSpec.ofChange segPlaysSpec)) segPlaysCard

/-- THE TIED CARD OF 'recensionlaw08.ManCleans'. -/
def manCleansCard : Claim7 := { stood := { row := manCleansRow, standIns := [], harness := (true, "25855349dd2dd054179ee17f49e1611db8405dcbbc57c4371f45cc154971b819"), looks := true }, kinds := [], alts := [], laidByText := true, laidKinds := [.data, .data, .data, .data, .handle, .sentinel, .sentinel, .pinned], laidTests := true, laidLooks := .later }
def ManCleansCardSaid : Prop := Claim7.holds Tryz.pinned (.plain (OpenSpec.ofChange manCleansSpec)) manCleansCard

/-- THE TIED CARD OF 'recensionlaw08.ManGreatest'. -/
def manGreatestCard : Claim7 := { stood := { row := manGreatestRow, standIns := [], harness := (true, "25855349dd2dd054179ee17f49e1611db8405dcbbc57c4371f45cc154971b819"), looks := true }, kinds := [], alts := [], laidByText := true, laidKinds := [.data, .data, .data, .data, .handle, .sentinel, .sentinel, .pinned], laidTests := true, laidLooks := .later }
def ManGreatestCardSaid : Prop := Claim7.holds Tryz.pinned (.plain (OpenSpec.ofChange manGreatestSpec)) manGreatestCard

/-- THE TIED CARD OF 'recensionlaw08.ManSwitches'. -/
def manSwitchesCard : Claim7 := { stood := { row := manSwitchesRow, standIns := [], harness := (true, "25855349dd2dd054179ee17f49e1611db8405dcbbc57c4371f45cc154971b819"), looks := true }, kinds := [], alts := [], laidByText := true, laidKinds := [.data, .data, .data, .data, .handle, .sentinel, .sentinel, .pinned], laidTests := true, laidLooks := .later }
def ManSwitchesCardSaid : Prop := Claim7.holds Tryz.pinned (.plain (OpenSpec.ofChange manSwitchesSpec)) manSwitchesCard

/-- THE TIED CARD OF 'recensionlaw08.ManPlays'. -/
def manPlaysCard : Claim7 := { stood := { row := manPlaysRow, standIns := [], harness := (true, "25855349dd2dd054179ee17f49e1611db8405dcbbc57c4371f45cc154971b819"), looks := true }, kinds := [], alts := [], laidByText := true, laidKinds := [.data, .data, .data, .data, .handle, .sentinel, .sentinel, .pinned], laidTests := true, laidLooks := .later }
def ManPlaysCardSaid : Prop := Claim7.holds Tryz.pinned (.plain (OpenSpec.ofChange manPlaysSpec)) manPlaysCard

/-- THE SECOND FORM's CARD OF 'recensionlaw07.SegScans'. -/
def segScansUptoCard : Claim7 := { stood := { row := segScansUptoRow, standIns := [], harness := (true, "25855349dd2dd054179ee17f49e1611db8405dcbbc57c4371f45cc154971b819"), looks := true }, kinds := [], alts := [], laidByText := true, laidKinds := [.data, .data, .data, .data, .pinned], laidTests := true, laidLooks := .later }
def SegScansUptoCardSaid : Prop := Claim7.holds Tryz.pinned (.plain (OpenSpec.upto segScansSpec)) segScansUptoCard

/-- THE SECOND FORM's CARD OF 'recensionlaw07.SegNames'. -/
def segNamesUptoCard : Claim7 := { stood := { row := segNamesUptoRow, standIns := [], harness := (true, "25855349dd2dd054179ee17f49e1611db8405dcbbc57c4371f45cc154971b819"), looks := true }, kinds := [], alts := [], laidByText := true, laidKinds := [.data, .data, .data, .data, .sentinel, .sentinel, .pinned], laidTests := true, laidLooks := .later }
def SegNamesUptoCardSaid : Prop := Claim7.holds Tryz.pinned (.plain (OpenSpec.upto segNamesSpec)) segNamesUptoCard

/-- THE SECOND FORM's CARD OF 'recensionlaw07.SegLasts'. -/
def segLastsUptoCard : Claim7 := { stood := { row := segLastsUptoRow, standIns := [], harness := (true, "25855349dd2dd054179ee17f49e1611db8405dcbbc57c4371f45cc154971b819"), looks := true }, kinds := [], alts := [], laidByText := true, laidKinds := [.data, .data, .data, .data, .handle, .pinned], laidTests := true, laidLooks := .later }
def SegLastsUptoCardSaid : Prop := Claim7.holds Tryz.pinned (.plain (OpenSpec.upto segLastsSpec)) segLastsUptoCard

/-- THE SECOND FORM's CARD OF 'recensionlaw07.SegPlays'. -/
def segPlaysUptoCard : Claim7 := { stood := { row := segPlaysUptoRow, standIns := [], harness := (true, "25855349dd2dd054179ee17f49e1611db8405dcbbc57c4371f45cc154971b819"), looks := true }, kinds := [], alts := [], laidByText := true, laidKinds := [.data, .data, .data, .data, .handle, .pinned], laidTests := true, laidLooks := .later }
def SegPlaysUptoCardSaid : Prop := Claim7.holds Tryz.pinned (.plain (OpenSpec.upto segPlaysSpec)) segPlaysUptoCard

/-- THE SECOND FORM's CARD OF 'recensionlaw08.ManCleans'. -/
def manCleansUptoCard : Claim7 := { stood := { row := manCleansUptoRow, standIns := [], harness := (true, "25855349dd2dd054179ee17f49e1611db8405dcbbc57c4371f45cc154971b819"), looks := true }, kinds := [], alts := [], laidByText := true, laidKinds := [.data, .data, .data, .data, .handle, .sentinel, .sentinel, .pinned], laidTests := true, laidLooks := .later }
def ManCleansUptoCardSaid : Prop := Claim7.holds Tryz.pinned (.plain (OpenSpec.upto manCleansSpec)) manCleansUptoCard

/-- THE SECOND FORM's CARD OF 'recensionlaw08.ManGreatest'. -/
def manGreatestUptoCard : Claim7 := { stood := { row := manGreatestUptoRow, standIns := [], harness := (true, "25855349dd2dd054179ee17f49e1611db8405dcbbc57c4371f45cc154971b819"), looks := true }, kinds := [], alts := [], laidByText := true, laidKinds := [.data, .data, .data, .data, .handle, .sentinel, .sentinel, .pinned], laidTests := true, laidLooks := .later }
def ManGreatestUptoCardSaid : Prop := Claim7.holds Tryz.pinned (.plain (OpenSpec.upto manGreatestSpec)) manGreatestUptoCard

/-- THE SECOND FORM's CARD OF 'recensionlaw08.ManSwitches'. -/
def manSwitchesUptoCard : Claim7 := { stood := { row := manSwitchesUptoRow, standIns := [], harness := (true, "25855349dd2dd054179ee17f49e1611db8405dcbbc57c4371f45cc154971b819"), looks := true }, kinds := [], alts := [], laidByText := true, laidKinds := [.data, .data, .data, .data, .handle, .sentinel, .sentinel, .pinned], laidTests := true, laidLooks := .later }
def ManSwitchesUptoCardSaid : Prop := Claim7.holds Tryz.pinned (.plain (OpenSpec.upto manSwitchesSpec)) manSwitchesUptoCard

/-- THE SECOND FORM's CARD OF 'recensionlaw08.ManPlays'. -/
def manPlaysUptoCard : Claim7 := { stood := { row := manPlaysUptoRow, standIns := [], harness := (true, "25855349dd2dd054179ee17f49e1611db8405dcbbc57c4371f45cc154971b819"), looks := true }, kinds := [], alts := [], laidByText := true, laidKinds := [.data, .data, .data, .data, .handle, .sentinel, .sentinel, .pinned], laidTests := true, laidLooks := .later }
def ManPlaysUptoCardSaid : Prop := Claim7.holds Tryz.pinned (.plain (OpenSpec.upto manPlaysSpec)) manPlaysUptoCard
end Rows
end Go.Proofs.YtfdpnjebhllpkaaGreatDoor
