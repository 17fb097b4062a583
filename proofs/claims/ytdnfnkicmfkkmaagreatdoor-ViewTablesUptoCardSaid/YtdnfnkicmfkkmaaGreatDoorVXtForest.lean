/- The builder's tree is the document's forest. No program stands here. -/
import Derived.Test.YtdnfnkicmfkkmaaGreatDoorVXlPlaces
import Derived.Test.YtdnfnkicmfkkmaaGreatDoorVStrLaws
import Derived.Test.YtdnfnkicmfkkmaaGreatDoorVXnTok
set_option linter.unusedVariables false
set_option linter.unusedSimpArgs false
section

end

section
namespace Go.Proofs.YtdnfnkicmfkkmaaGreatDoor.Xo
open Go.RowKit UtfW Qx Xl Xt
/-! ### Names -/
/-! ### Characters -/
/-! ### Attributes -/
end Go.Proofs.YtdnfnkicmfkkmaaGreatDoor.Xo
end

section
namespace Go.Proofs.YtdnfnkicmfkkmaaGreatDoor.Xo
open Go.RowKit UtfW Qx Xl Xt
/-! ### Trees as tokens -/
end Go.Proofs.YtdnfnkicmfkkmaaGreatDoor.Xo
end

section
namespace Go.Proofs.YtdnfnkicmfkkmaaGreatDoor.Xo
open Go.RowKit UtfW Qx Xl Xt
/-! ### What is written is valid -/
theorem esc_append (value : Bool) : ∀ a b : Tx, esc value (a ++ b) = esc value a ++ esc value b
 | [], b => rfl
 | c :: a, b => by rw [List.cons_append, esc, esc, esc_append value a b, List.append_assoc]
/-! ### No declaration -/
/-! ### The builder -/
end Go.Proofs.YtdnfnkicmfkkmaaGreatDoor.Xo
end

section
namespace Go.Proofs.YtdnfnkicmfkkmaaGreatDoor.Xt
open Xl
end Go.Proofs.YtdnfnkicmfkkmaaGreatDoor.Xt
end
