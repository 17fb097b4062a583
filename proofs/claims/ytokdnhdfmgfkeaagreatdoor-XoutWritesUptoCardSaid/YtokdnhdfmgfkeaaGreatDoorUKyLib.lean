/- What the library's functions on texts are, in the words of key specifications. No program stands here. -/
import Derived.Test.YtokdnhdfmgfkeaaGreatDoorUKyLines
import Derived.Lib.SplitLaws
import Derived.Lib.IndexMore
import Derived.Lib.SlTrimSet
import Derived.Lib.Join
set_option linter.unusedVariables false
set_option linter.unusedSimpArgs false
namespace Go.Proofs.YtokdnhdfmgfkeaaGreatDoor.Ky

section
variable (p : UInt8 → Bool)
end
/-! ### Small laws for the walks -/
end Go.Proofs.YtokdnhdfmgfkeaaGreatDoor.Ky
