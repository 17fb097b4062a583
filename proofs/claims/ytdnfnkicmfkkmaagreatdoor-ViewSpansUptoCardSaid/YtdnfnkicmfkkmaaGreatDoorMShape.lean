/- The wrap of a row that lists variables, the world's shape kept. -/
import Derived.Handed
import Derived.HandedShaped
set_option linter.unusedVariables false
set_option linter.unusedSimpArgs false
namespace Go.Proofs.YtdnfnkicmfkkmaaGreatDoor
open Go

end Go.Proofs.YtdnfnkicmfkkmaaGreatDoor
