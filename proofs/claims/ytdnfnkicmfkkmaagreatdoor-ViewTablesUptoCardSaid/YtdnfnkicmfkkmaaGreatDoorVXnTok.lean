
import Derived.Test.YtdnfnkicmfkkmaaGreatDoorVXlScan
import Derived.Test.YtdnfnkicmfkkmaaGreatDoorVErrWalk2
import Derived.Test.YtdnfnkicmfkkmaaGreatDoorVXlPlaces
import Derived.Laws.StructEq
import Derived.Test.YtdnfnkicmfkkmaaGreatDoorVXnSt1
set_option linter.unusedVariables false
set_option linter.unusedSimpArgs false
section
namespace Go.Proofs.YtdnfnkicmfkkmaaGreatDoor.Xl
open Go.RowKit UtfW
end Go.Proofs.YtdnfnkicmfkkmaaGreatDoor.Xl
end

section
namespace Go.Proofs.YtdnfnkicmfkkmaaGreatDoor.Xl
open Go.RowKit UtfW Er
end Go.Proofs.YtdnfnkicmfkkmaaGreatDoor.Xl
end

section
namespace Go.Proofs.YtdnfnkicmfkkmaaGreatDoor.Xl
open Go.RowKit UtfW Qx
/-! ### Plain characters -/
/-! ### Numbers -/
end Go.Proofs.YtdnfnkicmfkkmaaGreatDoor.Xl
end

section
namespace Go.Proofs.YtdnfnkicmfkkmaaGreatDoor.Xl
open Go.RowKit UtfW Qx
end Go.Proofs.YtdnfnkicmfkkmaaGreatDoor.Xl
end

section

end

section

end

section
namespace Go.Proofs.YtdnfnkicmfkkmaaGreatDoor.Xt
open Go.RowKit UtfW Xl
end Go.Proofs.YtdnfnkicmfkkmaaGreatDoor.Xt
end

section

end

section

end

section

end
