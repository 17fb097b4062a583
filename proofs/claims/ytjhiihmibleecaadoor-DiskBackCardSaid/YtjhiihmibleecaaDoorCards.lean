/-
  DERIVED. GIVEN WITH THE SEED: THE CARDS: each row of YtjhiihmibleecaaDoorRows.lean that lists a variable, with what it lists TIED to the program's text (the seventh form; the later family's looks); each row that meets fmt, with fmt's text TOLD by the authors' own Lean function (tested against real Go, not proved from fmt's source: count such statements apart). THE CARD IS WHAT COUNTS. Prove the row's statement (the work); the ties are given (YtjhiihmibleecaaDoorTie.lean); close each card by the builder's one call (the guide's Derived/Test/ToyasCard.lean, 'card_holds'). Laid BY PROGRAM, IN A SANDBOX (cutbox-door.mjs). By AI agents, Wed Nov 11 2026. No macro, syntax, notation, axiom, sorry.
-/
import Derived.Test.YtjhiihmibleecaaDoorRows
import GoSem.ClaimSeven
namespace Go.Proofs.YtjhiihmibleecaaDoor
namespace Rows

/-- THE TIED CARD OF 'recensionlaw05.DiskMoves'. -/
def diskMovesCard : Claim7 := { stood := { row := diskMovesRow, standIns := [], harness := (true, "05bd286ef7cba7052219fcb4dbc6790226ecba5cb0aca50866024b29d513fe05"), looks := false }, kinds := [], alts := [], laidByText := true, laidKinds := [.data, .pinned], laidTests := true, laidLooks := .later }
def DiskMovesCardSaid : Prop := Claim7.holds Tryd.pinned (.plain (OpenSpec.ofChange diskMovesSpec)) diskMovesCard

/-- THE TIED CARD OF 'recensionlaw05.DiskSafe'. -/
def diskSafeCard : Claim7 := { stood := { row := diskSafeRow, standIns := [], harness := (true, "05bd286ef7cba7052219fcb4dbc6790226ecba5cb0aca50866024b29d513fe05"), looks := false }, kinds := [], alts := [], laidByText := true, laidKinds := [.data, .pinned], laidTests := true, laidLooks := .later }
def DiskSafeCardSaid : Prop := Claim7.holds Tryd.pinned (.plain (OpenSpec.ofChange diskSafeSpec)) diskSafeCard

/-- THE TIED CARD OF 'recensionlaw05.DiskAlone'. -/
def diskAloneCard : Claim7 := { stood := { row := diskAloneRow, standIns := [], harness := (true, "05bd286ef7cba7052219fcb4dbc6790226ecba5cb0aca50866024b29d513fe05"), looks := false }, kinds := [], alts := [], laidByText := true, laidKinds := [.data, .pinned], laidTests := true, laidLooks := .later }
def DiskAloneCardSaid : Prop := Claim7.holds Tryd.pinned (.plain (OpenSpec.ofChange diskAloneSpec)) diskAloneCard

/-- THE TIED CARD OF 'recensionlaw05.DiskBack'. -/
def diskBackCard : Claim7 := { stood := { row := diskBackRow, standIns := [], harness := (true, "05bd286ef7cba7052219fcb4dbc6790226ecba5cb0aca50866024b29d513fe05"), looks := false }, kinds := [], alts := [], laidByText := true, laidKinds := [.data, .pinned], laidTests := true, laidLooks := .later }
def DiskBackCardSaid : Prop := Claim7.holds Tryd.pinned (.plain (OpenSpec.ofChange diskBackSpec)) diskBackCard

/-- THE SECOND FORM's CARD OF 'recensionlaw05.DiskMoves'. -/
def diskMovesUptoCard : Claim7 := { stood := { row := diskMovesUptoRow, standIns := [], harness := (true, "05bd286ef7cba7052219fcb4dbc6790226ecba5cb0aca50866024b29d513fe05"), looks := false }, kinds := [], alts := [], laidByText := true, laidKinds := [.data, .pinned], laidTests := true, laidLooks := .later }
def DiskMovesUptoCardSaid : Prop := Claim7.holds Tryd.pinned (.plain (OpenSpec.upto diskMovesSpec)) diskMovesUptoCard

/-- THE SECOND FORM's CARD OF 'recensionlaw05.DiskSafe'. -/
def diskSafeUptoCard : Claim7 := { stood := { row := diskSafeUptoRow, standIns := [], harness := (true, "05bd286ef7cba7052219fcb4dbc6790226ecba5cb0aca50866024b29d513fe05"), looks := false }, kinds := [], alts := [], laidByText := true, laidKinds := [.data, .pinned], laidTests := true, laidLooks := .later }
def DiskSafeUptoCardSaid : Prop := Claim7.holds Tryd.pinned (.plain (OpenSpec.upto diskSafeSpec)) diskSafeUptoCard

/-- THE SECOND FORM's CARD OF 'recensionlaw05.DiskAlone'. -/
def diskAloneUptoCard : Claim7 := { stood := { row := diskAloneUptoRow, standIns := [], harness := (true, "05bd286ef7cba7052219fcb4dbc6790226ecba5cb0aca50866024b29d513fe05"), looks := false }, kinds := [], alts := [], laidByText := true, laidKinds := [.data, .pinned], laidTests := true, laidLooks := .later }
def DiskAloneUptoCardSaid : Prop := Claim7.holds Tryd.pinned (.plain (OpenSpec.upto diskAloneSpec)) diskAloneUptoCard

/-- THE SECOND FORM's CARD OF 'recensionlaw05.DiskBack'. -/
def diskBackUptoCard : Claim7 := { stood := { row := diskBackUptoRow, standIns := [], harness := (true, "05bd286ef7cba7052219fcb4dbc6790226ecba5cb0aca50866024b29d513fe05"), looks := false }, kinds := [], alts := [], laidByText := true, laidKinds := [.data, .pinned], laidTests := true, laidLooks := .later }
def DiskBackUptoCardSaid : Prop := Claim7.holds Tryd.pinned (.plain (OpenSpec.upto diskBackSpec)) diskBackUptoCard
end Rows
end Go.Proofs.YtjhiihmibleecaaDoor
