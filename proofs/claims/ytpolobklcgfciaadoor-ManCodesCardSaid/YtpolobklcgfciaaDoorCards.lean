/-
  DERIVED. GIVEN WITH THE SEED: THE CARDS: each row of YtpolobklcgfciaaDoorRows.lean that lists a variable, with what it lists TIED to the program's text (the seventh form; the later family's looks); each row that meets fmt, with fmt's text TOLD by the authors' own Lean function (tested against real Go, not proved from fmt's source: count such statements apart). THE CARD IS WHAT COUNTS. Prove the row's statement (the work); the ties are given (YtpolobklcgfciaaDoorTie.lean); close each card by the builder's one call (the guide's Derived/Test/ToyasCard.lean, 'card_holds'). Laid BY PROGRAM, IN A SANDBOX (cutbox-door.mjs). By AI agents, Wed Nov 11 2026. No macro, syntax, notation, axiom, sorry.
-/
import Derived.Test.YtpolobklcgfciaaDoorRows
import GoSem.ClaimSeven
namespace Go.Proofs.YtpolobklcgfciaaDoor
namespace Rows

/-- THE TIED CARD OF 'recensionlaw08.ManBack'. -/
def manBackCard : Claim7 := { stood := { row := manBackRow, standIns := [], harness := (true, "7b6e36bcba49b09357f4aa3c14844992853615dfc72b3799bcc3d11a27f3fb47"), looks := true }, kinds := [], alts := [], laidByText := true, laidKinds := [.data, .data, .data], laidTests := true, laidLooks := .later }
def ManBackCardSaid : Prop := Claim7.holds Tryd.pinned (.plain (OpenSpec.ofChange manBackSpec)) manBackCard

/-- THE TIED CARD OF 'recensionlaw08.ManCodes'. -/
def manCodesCard : Claim7 := { stood := { row := manCodesRow, standIns := [], harness := (true, "7b6e36bcba49b09357f4aa3c14844992853615dfc72b3799bcc3d11a27f3fb47"), looks := true }, kinds := [], alts := [], laidByText := true, laidKinds := [.data, .data, .data, .sentinel, .sentinel], laidTests := true, laidLooks := .later }
def ManCodesCardSaid : Prop := Claim7.holds Tryd.pinned (.plain (OpenSpec.ofChange manCodesSpec)) manCodesCard

/-- THE SECOND FORM's CARD OF 'recensionlaw08.ManBack'. -/
def manBackUptoCard : Claim7 := { stood := { row := manBackUptoRow, standIns := [], harness := (true, "7b6e36bcba49b09357f4aa3c14844992853615dfc72b3799bcc3d11a27f3fb47"), looks := true }, kinds := [], alts := [], laidByText := true, laidKinds := [.data, .data, .data], laidTests := true, laidLooks := .later }
def ManBackUptoCardSaid : Prop := Claim7.holds Tryd.pinned (.plain (OpenSpec.upto manBackSpec)) manBackUptoCard

/-- THE SECOND FORM's CARD OF 'recensionlaw08.ManCodes'. -/
def manCodesUptoCard : Claim7 := { stood := { row := manCodesUptoRow, standIns := [], harness := (true, "7b6e36bcba49b09357f4aa3c14844992853615dfc72b3799bcc3d11a27f3fb47"), looks := true }, kinds := [], alts := [], laidByText := true, laidKinds := [.data, .data, .data, .sentinel, .sentinel], laidTests := true, laidLooks := .later }
def ManCodesUptoCardSaid : Prop := Claim7.holds Tryd.pinned (.plain (OpenSpec.upto manCodesSpec)) manCodesUptoCard
end Rows
end Go.Proofs.YtpolobklcgfciaaDoor
