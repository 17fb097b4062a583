/- The walks of the layer fault, second part: At, Depth, a plain error's text. -/
import Derived.Test.YtdnfnkicmfkkmaaGreatDoorProg
import Derived.WalkKit
import Derived.LaidEql
import Derived.Stop.Asserts
import Derived.RowKitTokens
import Derived.Deep.LoopGhost
import Derived.Below
import Derived.Lib.Hide
import Derived.Test.YtdnfnkicmfkkmaaGreatDoorVUtfEnc
import Derived.Lib.AppendIntMem
import Derived.Lib.SmallJoins
import Derived.Deep.Draws
import Derived.Deep.DeepCutAuto
set_option linter.unusedVariables false
set_option linter.unusedSimpArgs false
section
namespace Go.Proofs.YtdnfnkicmfkkmaaGreatDoor.Er
open Go.RowKit Go.Extern.Stop Go.Stop Go.Extern
end Go.Proofs.YtdnfnkicmfkkmaaGreatDoor.Er
end

section
namespace Go.Proofs.YtdnfnkicmfkkmaaGreatDoor.Er
open Go.RowKit Go.Extern.Stop Go.Stop Go.Extern
end Go.Proofs.YtdnfnkicmfkkmaaGreatDoor.Er
end

section

end

section
namespace Go.Proofs.YtdnfnkicmfkkmaaGreatDoor.Er
open Go.RowKit Go.Extern.Stop Go.Stop Go.Extern
end Go.Proofs.YtdnfnkicmfkkmaaGreatDoor.Er
end

section
namespace Go.Proofs.YtdnfnkicmfkkmaaGreatDoor.Er
open Go.RowKit
end Go.Proofs.YtdnfnkicmfkkmaaGreatDoor.Er
end

section
namespace Go.Proofs.YtdnfnkicmfkkmaaGreatDoor.Er
open Go.RowKit
end Go.Proofs.YtdnfnkicmfkkmaaGreatDoor.Er
end
