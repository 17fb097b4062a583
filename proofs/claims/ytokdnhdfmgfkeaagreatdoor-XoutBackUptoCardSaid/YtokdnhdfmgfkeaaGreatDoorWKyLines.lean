/- The plain law KeysLines: empty lines, remarks, blanks around lines. No program stands here. -/
import Derived.Test.YtokdnhdfmgfkeaaGreatDoorWKyMath
set_option linter.unusedVariables false
set_option linter.unusedSimpArgs false
section
namespace Go.Proofs.YtokdnhdfmgfkeaaGreatDoor.Ky
def okb (b : UInt8) : Bool := !([47, 123, 125, 44, 32, 9, 10, 13, 35, 64].contains b)
def Names (nm : Tx -> Bool) : Prop := ∀ s, nm s = true -> s ≠ [] /\ ∀ b ∈ s, okb b = true
section
variable {nm : Tx -> Bool} (hn : Names nm)
include hn
/-! ### What is written is read -/
/-! ### Frontiers -/
end
end Go.Proofs.YtokdnhdfmgfkeaaGreatDoor.Ky
end

section
namespace Go.Proofs.YtokdnhdfmgfkeaaGreatDoor.Ky
section
variable {nm : Tx -> Bool} (hn : Names nm)
include hn
end
end Go.Proofs.YtokdnhdfmgfkeaaGreatDoor.Ky
end
