/- The wrap of a row that lists variables, the world's shape kept. -/
import Derived.Handed
import Derived.HandedShaped
set_option linter.unusedVariables false
set_option linter.unusedSimpArgs false
namespace Go.Proofs.YtokdnhdfmgfkeaaGreatDoor
open Go
variable {H : Type} {enc : TypeId × Value -> H}
end Go.Proofs.YtokdnhdfmgfkeaaGreatDoor
