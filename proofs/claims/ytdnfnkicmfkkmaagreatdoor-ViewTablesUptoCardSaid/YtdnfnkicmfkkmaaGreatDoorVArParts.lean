/- The parts of an archive's element, plainly; the archive of documents in normal form. No program stands here. -/
import Derived.Test.YtdnfnkicmfkkmaaGreatDoorVNoOrd
import Derived.Test.YtdnfnkicmfkkmaaGreatDoorVStrLaws
set_option linter.unusedVariables false
set_option linter.unusedSimpArgs false
section
namespace Go.Proofs.YtdnfnkicmfkkmaaGreatDoor.Ar
open Go.RowKit UtfW Xl Xt Xo No Vw
open Go.Proofs.YtdnfnkicmfkkmaaGreatDoor (Ky.frontB Ky.Rl)
/-! ### What is merged -/
end Go.Proofs.YtdnfnkicmfkkmaaGreatDoor.Ar
end

section
namespace Go.Proofs.YtdnfnkicmfkkmaaGreatDoor.Ar
open Go.RowKit UtfW Xl Xt Xo No Vw
open Go.Proofs.YtdnfnkicmfkkmaaGreatDoor (Ky.frontB Ky.Rl)
end Go.Proofs.YtdnfnkicmfkkmaaGreatDoor.Ar
end

section
namespace Go.Proofs.YtdnfnkicmfkkmaaGreatDoor.Ar
open Go.RowKit UtfW Xl Xt Xo No Vw
open Go.Proofs.YtdnfnkicmfkkmaaGreatDoor (Ky.frontB Ky.Rl Ky.mayB)
end Go.Proofs.YtdnfnkicmfkkmaaGreatDoor.Ar
end
