/-
  DERIVED. GIVEN WITH THE SEED: THE CARDS: each row of YthkimdjkpfpmaaaDoorRows.lean that lists a variable, with what it lists TIED to the program's text (the seventh form; the later family's looks); each row that meets fmt, with fmt's text TOLD by the authors' own Lean function (tested against real Go, not proved from fmt's source: count such statements apart). THE CARD IS WHAT COUNTS. Prove the row's statement (the work); the ties are given (YthkimdjkpfpmaaaDoorTie.lean); close each card by the builder's one call (the guide's Derived/Test/ToyasCard.lean, 'card_holds'). Laid BY PROGRAM, IN A SANDBOX (cutbox-door.mjs). By AI agents, Wed Nov 11 2026. No macro, syntax, notation, axiom, sorry.
-/
import Derived.Test.YthkimdjkpfpmaaaDoorRows
import GoSem.ClaimSeven
namespace Go.Proofs.YthkimdjkpfpmaaaDoor
namespace Rows

/-- THE TIED CARD OF 'recensionlaw01.FaultParts'. -/
def faultPartsCard : Claim7 := { stood := { row := faultPartsRow, standIns := [], harness := (true, "06ad81183931b41f541e37d2dc7620d44f508a5008b8112d2165e9c53a58cd56"), looks := true }, kinds := [], alts := [], laidByText := true, laidKinds := [.data, .data, .data, .handle], laidTests := true, laidLooks := .later }
def FaultPartsCardSaid : Prop := Claim7.holds Tryd.pinned (.plain (OpenSpec.ofChange faultPartsSpec)) faultPartsCard

/-- THE TIED CARD OF 'recensionlaw01.FaultCodes'. -/
def faultCodesCard : Claim7 := { stood := { row := faultCodesRow, standIns := [], harness := (true, "06ad81183931b41f541e37d2dc7620d44f508a5008b8112d2165e9c53a58cd56"), looks := true }, kinds := [], alts := [], laidByText := true, laidKinds := [.data, .data, .data, .handle], laidTests := true, laidLooks := .later }
def FaultCodesCardSaid : Prop := Claim7.holds Tryd.pinned (.plain (OpenSpec.ofChange faultCodesSpec)) faultCodesCard

/-- THE TIED CARD OF 'recensionlaw01.FaultWraps'. -/
def faultWrapsCard : Claim7 := { stood := { row := faultWrapsRow, standIns := [], harness := (true, "06ad81183931b41f541e37d2dc7620d44f508a5008b8112d2165e9c53a58cd56"), looks := true }, kinds := [], alts := [], laidByText := true, laidKinds := [.data, .data, .data, .handle], laidTests := true, laidLooks := .later }
def FaultWrapsCardSaid : Prop := Claim7.holds Tryd.pinned (.plain (OpenSpec.ofChange faultWrapsSpec)) faultWrapsCard

/-- THE TIED CARD OF 'recensionlaw01.FaultIs'. -/
def faultIsCard : Claim7 := { stood := { row := faultIsRow, standIns := [], harness := (true, "06ad81183931b41f541e37d2dc7620d44f508a5008b8112d2165e9c53a58cd56"), looks := true }, kinds := [], alts := [], laidByText := true, laidKinds := [.data, .data, .data, .handle], laidTests := true, laidLooks := .later }
def FaultIsCardSaid : Prop := Claim7.holds Tryd.pinned (.plain (OpenSpec.ofChange faultIsSpec)) faultIsCard

/-- THE SECOND FORM's CARD OF 'recensionlaw01.FaultParts'. -/
def faultPartsUptoCard : Claim7 := { stood := { row := faultPartsUptoRow, standIns := [], harness := (true, "06ad81183931b41f541e37d2dc7620d44f508a5008b8112d2165e9c53a58cd56"), looks := true }, kinds := [], alts := [], laidByText := true, laidKinds := [.data, .data, .data, .handle], laidTests := true, laidLooks := .later }
def FaultPartsUptoCardSaid : Prop := Claim7.holds Tryd.pinned (.plain (OpenSpec.upto faultPartsSpec)) faultPartsUptoCard

/-- THE SECOND FORM's CARD OF 'recensionlaw01.FaultCodes'. -/
def faultCodesUptoCard : Claim7 := { stood := { row := faultCodesUptoRow, standIns := [], harness := (true, "06ad81183931b41f541e37d2dc7620d44f508a5008b8112d2165e9c53a58cd56"), looks := true }, kinds := [], alts := [], laidByText := true, laidKinds := [.data, .data, .data, .handle], laidTests := true, laidLooks := .later }
def FaultCodesUptoCardSaid : Prop := Claim7.holds Tryd.pinned (.plain (OpenSpec.upto faultCodesSpec)) faultCodesUptoCard

/-- THE SECOND FORM's CARD OF 'recensionlaw01.FaultWraps'. -/
def faultWrapsUptoCard : Claim7 := { stood := { row := faultWrapsUptoRow, standIns := [], harness := (true, "06ad81183931b41f541e37d2dc7620d44f508a5008b8112d2165e9c53a58cd56"), looks := true }, kinds := [], alts := [], laidByText := true, laidKinds := [.data, .data, .data, .handle], laidTests := true, laidLooks := .later }
def FaultWrapsUptoCardSaid : Prop := Claim7.holds Tryd.pinned (.plain (OpenSpec.upto faultWrapsSpec)) faultWrapsUptoCard

/-- THE SECOND FORM's CARD OF 'recensionlaw01.FaultIs'. -/
def faultIsUptoCard : Claim7 := { stood := { row := faultIsUptoRow, standIns := [], harness := (true, "06ad81183931b41f541e37d2dc7620d44f508a5008b8112d2165e9c53a58cd56"), looks := true }, kinds := [], alts := [], laidByText := true, laidKinds := [.data, .data, .data, .handle], laidTests := true, laidLooks := .later }
def FaultIsUptoCardSaid : Prop := Claim7.holds Tryd.pinned (.plain (OpenSpec.upto faultIsSpec)) faultIsUptoCard
end Rows
end Go.Proofs.YthkimdjkpfpmaaaDoor
