/-
  DERIVED. GIVEN WITH THE SEED: THE CARDS: each row of YtfbhcjjnkahmhaaDoorRows.lean that lists a variable, with what it lists TIED to the program's text (the seventh form; the later family's looks); each row that meets fmt, with fmt's text TOLD by the authors' own Lean function (tested against real Go, not proved from fmt's source: count such statements apart). THE CARD IS WHAT COUNTS. Prove the row's statement (the work); the ties are given (YtfbhcjjnkahmhaaDoorTie.lean); close each card by the builder's one call (the guide's Derived/Test/ToyasCard.lean, 'card_holds'). Laid BY PROGRAM, IN A SANDBOX (cutbox-door.mjs). By AI agents, Wed Nov 11 2026. No macro, syntax, notation, axiom, sorry.
-/
import Derived.Test.YtfbhcjjnkahmhaaDoorRows
import GoSem.ClaimSeven
namespace Go.Proofs.YtfbhcjjnkahmhaaDoor
namespace Rows

/-- THE TIED CARD OF 'recensionlaw02.UtfNext'. -/
def utfNextCard : Claim7 := { stood := { row := utfNextRow, standIns := [], harness := (true, "d6ccffc6491a1d720fa20ed0b63d80b80fe59fd52ab954c1ba366d4d6fcc60c0"), looks := false }, kinds := [], alts := [], laidByText := true, laidKinds := [.data, .pinned], laidTests := true, laidLooks := .later }
def UtfNextCardSaid : Prop := Claim7.holds Tryd.pinned (.plain (OpenSpec.ofChange utfNextSpec)) utfNextCard

/-- THE TIED CARD OF 'recensionlaw02.UtfRunes'. -/
def utfRunesCard : Claim7 := { stood := { row := utfRunesRow, standIns := [], harness := (true, "d6ccffc6491a1d720fa20ed0b63d80b80fe59fd52ab954c1ba366d4d6fcc60c0"), looks := false }, kinds := [], alts := [], laidByText := true, laidKinds := [.data, .pinned], laidTests := true, laidLooks := .later }
def UtfRunesCardSaid : Prop := Claim7.holds Tryd.pinned (.plain (OpenSpec.ofChange utfRunesSpec)) utfRunesCard

/-- THE TIED CARD OF 'recensionlaw02.UtfBack'. -/
def utfBackCard : Claim7 := { stood := { row := utfBackRow, standIns := [], harness := (true, "d6ccffc6491a1d720fa20ed0b63d80b80fe59fd52ab954c1ba366d4d6fcc60c0"), looks := false }, kinds := [], alts := [], laidByText := true, laidKinds := [.data, .pinned], laidTests := true, laidLooks := .later }
def UtfBackCardSaid : Prop := Claim7.holds Tryd.pinned (.plain (OpenSpec.ofChange utfBackSpec)) utfBackCard

/-- THE TIED CARD OF 'recensionlaw02.UtfTexts'. -/
def utfTextsCard : Claim7 := { stood := { row := utfTextsRow, standIns := [], harness := (true, "d6ccffc6491a1d720fa20ed0b63d80b80fe59fd52ab954c1ba366d4d6fcc60c0"), looks := false }, kinds := [], alts := [], laidByText := true, laidKinds := [.data, .pinned], laidTests := true, laidLooks := .later }
def UtfTextsCardSaid : Prop := Claim7.holds Tryd.pinned (.plain (OpenSpec.ofChange utfTextsSpec)) utfTextsCard

/-- THE TIED CARD OF 'recensionlaw02.UtfSides'. -/
def utfSidesCard : Claim7 := { stood := { row := utfSidesRow, standIns := [], harness := (true, "d6ccffc6491a1d720fa20ed0b63d80b80fe59fd52ab954c1ba366d4d6fcc60c0"), looks := false }, kinds := [], alts := [], laidByText := true, laidKinds := [.data, .pinned], laidTests := true, laidLooks := .later }
def UtfSidesCardSaid : Prop := Claim7.holds Tryd.pinned (.plain (OpenSpec.ofChange utfSidesSpec)) utfSidesCard

/-- THE SECOND FORM's CARD OF 'recensionlaw02.UtfNext'. -/
def utfNextUptoCard : Claim7 := { stood := { row := utfNextUptoRow, standIns := [], harness := (true, "d6ccffc6491a1d720fa20ed0b63d80b80fe59fd52ab954c1ba366d4d6fcc60c0"), looks := false }, kinds := [], alts := [], laidByText := true, laidKinds := [.data, .pinned], laidTests := true, laidLooks := .later }
def UtfNextUptoCardSaid : Prop := Claim7.holds Tryd.pinned (.plain (OpenSpec.upto utfNextSpec)) utfNextUptoCard

/-- THE SECOND FORM's CARD OF 'recensionlaw02.UtfRunes'. -/
def utfRunesUptoCard : Claim7 := { stood := { row := utfRunesUptoRow, standIns := [], harness := (true, "d6ccffc6491a1d720fa20ed0b63d80b80fe59fd52ab954c1ba366d4d6fcc60c0"), looks := false }, kinds := [], alts := [], laidByText := true, laidKinds := [.data, .pinned], laidTests := true, laidLooks := .later }
def UtfRunesUptoCardSaid : Prop := Claim7.holds Tryd.pinned (.plain (OpenSpec.upto utfRunesSpec)) utfRunesUptoCard

/-- THE SECOND FORM's CARD OF 'recensionlaw02.UtfBack'. -/
def utfBackUptoCard : Claim7 := { stood := { row := utfBackUptoRow, standIns := [], harness := (true, "d6ccffc6491a1d720fa20ed0b63d80b80fe59fd52ab954c1ba366d4d6fcc60c0"), looks := false }, kinds := [], alts := [], laidByText := true, laidKinds := [.data, .pinned], laidTests := true, laidLooks := .later }
def UtfBackUptoCardSaid : Prop := Claim7.holds Tryd.pinned (.plain (OpenSpec.upto utfBackSpec)) utfBackUptoCard

/-- THE SECOND FORM's CARD OF 'recensionlaw02.UtfTexts'. -/
def utfTextsUptoCard : Claim7 := { stood := { row := utfTextsUptoRow, standIns := [], harness := (true, "d6ccffc6491a1d720fa20ed0b63d80b80fe59fd52ab954c1ba366d4d6fcc60c0"), looks := false }, kinds := [], alts := [], laidByText := true, laidKinds := [.data, .pinned], laidTests := true, laidLooks := .later }
def UtfTextsUptoCardSaid : Prop := Claim7.holds Tryd.pinned (.plain (OpenSpec.upto utfTextsSpec)) utfTextsUptoCard

/-- THE SECOND FORM's CARD OF 'recensionlaw02.UtfSides'. -/
def utfSidesUptoCard : Claim7 := { stood := { row := utfSidesUptoRow, standIns := [], harness := (true, "d6ccffc6491a1d720fa20ed0b63d80b80fe59fd52ab954c1ba366d4d6fcc60c0"), looks := false }, kinds := [], alts := [], laidByText := true, laidKinds := [.data, .pinned], laidTests := true, laidLooks := .later }
def UtfSidesUptoCardSaid : Prop := Claim7.holds Tryd.pinned (.plain (OpenSpec.upto utfSidesSpec)) utfSidesUptoCard
end Rows
end Go.Proofs.YtfbhcjjnkahmhaaDoor
