/-
  DERIVED. GIVEN WITH THE SEED: THE CARDS: each row of YtcecmbbhjaeodaaGreatDoorRows.lean that lists a variable, with what it lists TIED to the program's text (the seventh form; the later family's looks); each row that meets fmt, with fmt's text TOLD by the authors' own Lean function (tested against real Go, not proved from fmt's source: count such statements apart). THE CARD IS WHAT COUNTS. Prove the row's statement (the work); the ties are given (YtcecmbbhjaeodaaGreatDoorTie.lean); close each card by the builder's one call (the guide's Derived/Test/ToyasCard.lean, 'card_holds'). Laid BY PROGRAM, IN A SANDBOX (cutbox-door.mjs). By AI agents, Wed Nov 11 2026. No macro, syntax, notation, axiom, sorry.
-/
import Derived.Test.YtcecmbbhjaeodaaGreatDoorRows
import GoSem.ClaimSeven
namespace Go.Proofs.YtcecmbbhjaeodaaGreatDoor
namespace Rows

/-- THE TIED CARD OF 'recensionlaw09.XlexCuts'. -/
def xlexCutsCard : Claim7 := { stood := { row := xlexCutsRow, standIns := [], harness := (true, "bed0732331f6813a835c6679a3a91470bcccfacabffbb317fb561cbf072a331c"), looks := true }, kinds := [], alts := [], laidByText := true, laidKinds := [.data, .handle, .data, .data, .pinned, .pinned], laidTests := true, laidLooks := .later }
def XlexCutsCardSaid : Prop := Claim7.holds Tryz.pinned (.plain (OpenSpec.ofChange xlexCutsSpec)) xlexCutsCard

/-- THE TIED CARD OF 'recensionlaw09.XlexPlaces'. -/
def xlexPlacesCard : Claim7 := { stood := { row := xlexPlacesRow, standIns := [], harness := (true, "bed0732331f6813a835c6679a3a91470bcccfacabffbb317fb561cbf072a331c"), looks := true }, kinds := [], alts := [], laidByText := true, laidKinds := [.data, .handle, .data, .data, .pinned, .pinned], laidTests := true, laidLooks := .later }
def XlexPlacesCardSaid : Prop := Claim7.holds Tryz.pinned (.plain (OpenSpec.ofChange xlexPlacesSpec)) xlexPlacesCard

/-- THE TIED CARD OF 'recensionlaw09.XlexJoins'. -/
def xlexJoinsCard : Claim7 := { stood := { row := xlexJoinsRow, standIns := [], harness := (true, "bed0732331f6813a835c6679a3a91470bcccfacabffbb317fb561cbf072a331c"), looks := true }, kinds := [], alts := [], laidByText := true, laidKinds := [.data, .handle, .data, .data, .pinned, .pinned], laidTests := true, laidLooks := .later }
def XlexJoinsCardSaid : Prop := Claim7.holds Tryz.pinned (.plain (OpenSpec.ofChange xlexJoinsSpec)) xlexJoinsCard

/-- THE TIED CARD OF 'recensionlaw09.XlexPlain'. -/
def xlexPlainCard : Claim7 := { stood := { row := xlexPlainRow, standIns := [], harness := (true, "bed0732331f6813a835c6679a3a91470bcccfacabffbb317fb561cbf072a331c"), looks := true }, kinds := [], alts := [], laidByText := true, laidKinds := [.data, .handle, .data, .data, .pinned, .pinned], laidTests := true, laidLooks := .later }
def XlexPlainCardSaid : Prop := Claim7.holds Tryz.pinned (.plain (OpenSpec.ofChange xlexPlainSpec)) xlexPlainCard

/-- THE TIED CARD OF 'recensionlaw09.XlexValues'. -/
def xlexValuesCard : Claim7 := { stood := { row := xlexValuesRow, standIns := [], harness := (true, "bed0732331f6813a835c6679a3a91470bcccfacabffbb317fb561cbf072a331c"), looks := true }, kinds := [], alts := [], laidByText := true, laidKinds := [.data, .handle, .data, .data, .pinned, .pinned], laidTests := true, laidLooks := .later }
def XlexValuesCardSaid : Prop := Claim7.holds Tryz.pinned (.plain (OpenSpec.ofChange xlexValuesSpec)) xlexValuesCard

/-- THE SECOND FORM's CARD OF 'recensionlaw09.XlexCuts'. -/
def xlexCutsUptoCard : Claim7 := { stood := { row := xlexCutsUptoRow, standIns := [], harness := (true, "bed0732331f6813a835c6679a3a91470bcccfacabffbb317fb561cbf072a331c"), looks := true }, kinds := [], alts := [], laidByText := true, laidKinds := [.data, .handle, .data, .data, .pinned, .pinned], laidTests := true, laidLooks := .later }
def XlexCutsUptoCardSaid : Prop := Claim7.holds Tryz.pinned (.plain (OpenSpec.upto xlexCutsSpec)) xlexCutsUptoCard

/-- THE SECOND FORM's CARD OF 'recensionlaw09.XlexPlaces'. -/
def xlexPlacesUptoCard : Claim7 := { stood := { row := xlexPlacesUptoRow, standIns := [], harness := (true, "bed0732331f6813a835c6679a3a91470bcccfacabffbb317fb561cbf072a331c"), looks := true }, kinds := [], alts := [], laidByText := true, laidKinds := [.data, .handle, .data, .data, .pinned, .pinned], laidTests := true, laidLooks := .later }
def XlexPlacesUptoCardSaid : Prop := Claim7.holds Tryz.pinned (.plain (OpenSpec.upto xlexPlacesSpec)) xlexPlacesUptoCard

/-- THE SECOND FORM's CARD OF 'recensionlaw09.XlexJoins'. -/
def xlexJoinsUptoCard : Claim7 := { stood := { row := xlexJoinsUptoRow, standIns := [], harness := (true, "bed0732331f6813a835c6679a3a91470bcccfacabffbb317fb561cbf072a331c"), looks := true }, kinds := [], alts := [], laidByText := true, laidKinds := [.data, .handle, .data, .data, .pinned, .pinned], laidTests := true, laidLooks := .later }
def XlexJoinsUptoCardSaid : Prop := Claim7.holds Tryz.pinned (.plain (OpenSpec.upto xlexJoinsSpec)) xlexJoinsUptoCard

/-- THE SECOND FORM's CARD OF 'recensionlaw09.XlexPlain'. -/
def xlexPlainUptoCard : Claim7 := { stood := { row := xlexPlainUptoRow, standIns := [], harness := (true, "bed0732331f6813a835c6679a3a91470bcccfacabffbb317fb561cbf072a331c"), looks := true }, kinds := [], alts := [], laidByText := true, laidKinds := [.data, .handle, .data, .data, .pinned, .pinned], laidTests := true, laidLooks := .later }
def XlexPlainUptoCardSaid : Prop := Claim7.holds Tryz.pinned (.plain (OpenSpec.upto xlexPlainSpec)) xlexPlainUptoCard

/-- THE SECOND FORM's CARD OF 'recensionlaw09.XlexValues'. -/
def xlexValuesUptoCard : Claim7 := { stood := { row := xlexValuesUptoRow, standIns := [], harness := (true, "bed0732331f6813a835c6679a3a91470bcccfacabffbb317fb561cbf072a331c"), looks := true }, kinds := [], alts := [], laidByText := true, laidKinds := [.data, .handle, .data, .data, .pinned, .pinned], laidTests := true, laidLooks := .later }
def XlexValuesUptoCardSaid : Prop := Claim7.holds Tryz.pinned (.plain (OpenSpec.upto xlexValuesSpec)) xlexValuesUptoCard
end Rows
end Go.Proofs.YtcecmbbhjaeodaaGreatDoor
