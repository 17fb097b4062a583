/-
  DERIVED. GIVEN WITH THE SEED: THE CARDS: each row of YtppmnelgekhbnaaGreatDoorRows.lean that lists a variable, with what it lists TIED to the program's text (the seventh form; the later family's looks); each row that meets fmt, with fmt's text TOLD by the authors' own Lean function (tested against real Go, not proved from fmt's source: count such statements apart). THE CARD IS WHAT COUNTS. Prove the row's statement (the work); the ties are given (YtppmnelgekhbnaaGreatDoorTie.lean); close each card by the builder's one call (the guide's Derived/Test/ToyasCard.lean, 'card_holds'). Laid BY PROGRAM, IN A SANDBOX (cutbox-door.mjs). By AI agents, Wed Nov 11 2026. No macro, syntax, notation, axiom, sorry.
-/
import Derived.Test.YtppmnelgekhbnaaGreatDoorRows
import GoSem.ClaimSeven
namespace Go.Proofs.YtppmnelgekhbnaaGreatDoor
namespace Rows

/-- THE TIED CARD OF 'recensionlaw14.IvsetOne'. -/
def ivsetOneCard : Claim7 := { stood := { row := ivsetOneRow, standIns := [], harness := (true, "fd63be6f6c2257a0635b6d6ef15b9aece649305374af8bc69f134427fe15b7e2"), looks := true }, kinds := [], alts := [], laidByText := true, laidKinds := [.data, .data, .data, .data, .sentinel, .sentinel, .pinned], laidTests := true, laidLooks := .later }
def IvsetOneCardSaid : Prop := Claim7.holds Tryz.pinned (.plain (OpenSpec.ofChange ivsetOneSpec)) ivsetOneCard

/-- THE SECOND FORM's CARD OF 'recensionlaw14.IvsetOne'. -/
def ivsetOneUptoCard : Claim7 := { stood := { row := ivsetOneUptoRow, standIns := [], harness := (true, "fd63be6f6c2257a0635b6d6ef15b9aece649305374af8bc69f134427fe15b7e2"), looks := true }, kinds := [], alts := [], laidByText := true, laidKinds := [.data, .data, .data, .data, .sentinel, .sentinel, .pinned], laidTests := true, laidLooks := .later }
def IvsetOneUptoCardSaid : Prop := Claim7.holds Tryz.pinned (.plain (OpenSpec.upto ivsetOneSpec)) ivsetOneUptoCard
end Rows
end Go.Proofs.YtppmnelgekhbnaaGreatDoor
