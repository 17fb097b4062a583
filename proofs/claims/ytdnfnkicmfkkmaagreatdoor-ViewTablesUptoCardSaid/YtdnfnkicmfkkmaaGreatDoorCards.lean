/-
  DERIVED. GIVEN WITH THE SEED: THE CARDS: each row of YtdnfnkicmfkkmaaGreatDoorRows.lean that lists a variable, with what it lists TIED to the program's text (the seventh form; the later family's looks); each row that meets fmt, with fmt's text TOLD by the authors' own Lean function (tested against real Go, not proved from fmt's source: count such statements apart). THE CARD IS WHAT COUNTS. Prove the row's statement (the work); the ties are given (YtdnfnkicmfkkmaaGreatDoorTie.lean); close each card by the builder's one call (the guide's Derived/Test/ToyasCard.lean, 'card_holds'). Laid BY PROGRAM, IN A SANDBOX (cutbox-door.mjs). By AI agents, Wed Nov 11 2026. No macro, syntax, notation, axiom, sorry.
-/
import Derived.Test.YtdnfnkicmfkkmaaGreatDoorRows
import GoSem.ClaimSeven
namespace Go.Proofs.YtdnfnkicmfkkmaaGreatDoor
namespace Rows

/-- THE TIED CARD OF 'recensionlaw22.ViewTables'. -/
def viewTablesCard : Claim7 := { stood := { row := viewTablesRow, standIns := [], harness := (true, "815b05c34a4322bbe37009b8f2a2075d6b4ee3f9ab9de009074b3a0825e335a4"), looks := true }, kinds := [], alts := [], laidByText := true, laidKinds := [.data, .data, .data, .data, .pinned], laidTests := true, laidLooks := .later }
def ViewTablesCardSaid : Prop := Claim7.holds Tryz.pinned (.plain (OpenSpec.ofChange viewTablesSpec)) viewTablesCard

/-- THE TIED CARD OF 'recensionlaw22.ViewPaths'. -/
def viewPathsCard : Claim7 := { stood := { row := viewPathsRow, standIns := [], harness := (true, "815b05c34a4322bbe37009b8f2a2075d6b4ee3f9ab9de009074b3a0825e335a4"), looks := true }, kinds := [], alts := [], laidByText := true, laidKinds := [.data, .data, .data, .data, .pinned], laidTests := true, laidLooks := .later }
def ViewPathsCardSaid : Prop := Claim7.holds Tryz.pinned (.plain (OpenSpec.ofChange viewPathsSpec)) viewPathsCard

/-- THE TIED CARD OF 'recensionlaw22.ViewAxes'. -/
def viewAxesCard : Claim7 := { stood := { row := viewAxesRow, standIns := [], harness := (true, "815b05c34a4322bbe37009b8f2a2075d6b4ee3f9ab9de009074b3a0825e335a4"), looks := true }, kinds := [], alts := [], laidByText := true, laidKinds := [.data, .data, .data, .data, .pinned], laidTests := true, laidLooks := .later }
def ViewAxesCardSaid : Prop := Claim7.holds Tryz.pinned (.plain (OpenSpec.ofChange viewAxesSpec)) viewAxesCard

/-- THE TIED CARD OF 'recensionlaw22.ViewSpans'. -/
def viewSpansCard : Claim7 := { stood := { row := viewSpansRow, standIns := [], harness := (true, "815b05c34a4322bbe37009b8f2a2075d6b4ee3f9ab9de009074b3a0825e335a4"), looks := true }, kinds := [], alts := [], laidByText := true, laidKinds := [.data, .data, .data, .data, .pinned], laidTests := true, laidLooks := .later }
def ViewSpansCardSaid : Prop := Claim7.holds Tryz.pinned (.plain (OpenSpec.ofChange viewSpansSpec)) viewSpansCard

/-- THE TIED CARD OF 'recensionlaw22.ViewVersions'. -/
def viewVersionsCard : Claim7 := { stood := { row := viewVersionsRow, standIns := [], harness := (true, "815b05c34a4322bbe37009b8f2a2075d6b4ee3f9ab9de009074b3a0825e335a4"), looks := true }, kinds := [], alts := [], laidByText := true, laidKinds := [.data, .data, .data, .data, .handle, .pinned], laidTests := true, laidLooks := .later }
def ViewVersionsCardSaid : Prop := Claim7.holds Tryz.pinned (.plain (OpenSpec.ofChange viewVersionsSpec)) viewVersionsCard

/-- THE SECOND FORM's CARD OF 'recensionlaw22.ViewTables'. -/
def viewTablesUptoCard : Claim7 := { stood := { row := viewTablesUptoRow, standIns := [], harness := (true, "815b05c34a4322bbe37009b8f2a2075d6b4ee3f9ab9de009074b3a0825e335a4"), looks := true }, kinds := [], alts := [], laidByText := true, laidKinds := [.data, .data, .data, .data, .pinned], laidTests := true, laidLooks := .later }
def ViewTablesUptoCardSaid : Prop := Claim7.holds Tryz.pinned (.plain (OpenSpec.upto viewTablesSpec)) viewTablesUptoCard

/-- THE SECOND FORM's CARD OF 'recensionlaw22.ViewPaths'. -/
def viewPathsUptoCard : Claim7 := { stood := { row := viewPathsUptoRow, standIns := [], harness := (true, "815b05c34a4322bbe37009b8f2a2075d6b4ee3f9ab9de009074b3a0825e335a4"), looks := true }, kinds := [], alts := [], laidByText := true, laidKinds := [.data, .data, .data, .data, .pinned], laidTests := true, laidLooks := .later }
def ViewPathsUptoCardSaid : Prop := Claim7.holds Tryz.pinned (.plain (OpenSpec.upto viewPathsSpec)) viewPathsUptoCard

/-- THE SECOND FORM's CARD OF 'recensionlaw22.ViewAxes'. -/
def viewAxesUptoCard : Claim7 := { stood := { row := viewAxesUptoRow, standIns := [], harness := (true, "815b05c34a4322bbe37009b8f2a2075d6b4ee3f9ab9de009074b3a0825e335a4"), looks := true }, kinds := [], alts := [], laidByText := true, laidKinds := [.data, .data, .data, .data, .pinned], laidTests := true, laidLooks := .later }
def ViewAxesUptoCardSaid : Prop := Claim7.holds Tryz.pinned (.plain (OpenSpec.upto viewAxesSpec)) viewAxesUptoCard

/-- THE SECOND FORM's CARD OF 'recensionlaw22.ViewSpans'. -/
def viewSpansUptoCard : Claim7 := { stood := { row := viewSpansUptoRow, standIns := [], harness := (true, "815b05c34a4322bbe37009b8f2a2075d6b4ee3f9ab9de009074b3a0825e335a4"), looks := true }, kinds := [], alts := [], laidByText := true, laidKinds := [.data, .data, .data, .data, .pinned], laidTests := true, laidLooks := .later }
def ViewSpansUptoCardSaid : Prop := Claim7.holds Tryz.pinned (.plain (OpenSpec.upto viewSpansSpec)) viewSpansUptoCard

/-- THE SECOND FORM's CARD OF 'recensionlaw22.ViewVersions'. -/
def viewVersionsUptoCard : Claim7 := { stood := { row := viewVersionsUptoRow, standIns := [], harness := (true, "815b05c34a4322bbe37009b8f2a2075d6b4ee3f9ab9de009074b3a0825e335a4"), looks := true }, kinds := [], alts := [], laidByText := true, laidKinds := [.data, .data, .data, .data, .handle, .pinned], laidTests := true, laidLooks := .later }
def ViewVersionsUptoCardSaid : Prop := Claim7.holds Tryz.pinned (.plain (OpenSpec.upto viewVersionsSpec)) viewVersionsUptoCard
end Rows
end Go.Proofs.YtdnfnkicmfkkmaaGreatDoor
