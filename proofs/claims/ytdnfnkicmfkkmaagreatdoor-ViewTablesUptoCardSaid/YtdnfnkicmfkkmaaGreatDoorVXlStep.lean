/- Single steps of the plain lexer, at a place of the whole. No program stands here. -/
import Derived.Test.YtdnfnkicmfkkmaaGreatDoorVXlPlaces
import Derived.Test.YtdnfnkicmfkkmaaGreatDoorVUtfEnc
import Derived.Test.YtdnfnkicmfkkmaaGreatDoorVStrLaws
import Derived.Maps.AppendAt
import Derived.WalkLawsBesides
import Derived.Laws.Rows
import Derived.Deep.Heap
import Derived.BigQuiet
import Derived.BigRegion
import Derived.Deep.QuietTactic
import Derived.Lib.SmallJoins
import Derived.Shelf.Strings.CaseAny
import Derived.Shelf.Lay
import Derived.Ground.NamesProg
import Derived.Shelf.Strings.Prefix
import Derived.Shelf.Small.Strs
import Derived.Shelf.Small.Wraps
import Derived.Shelf.Strings.Fold
import Derived.Shelf.Bytes.SlSmallAll
import Derived.Shelf.Bytes.SlIndexWhole
import Derived.Shelf.Bytes.IndexByte
import Derived.Shelf.Bytes.SlClone
set_option linter.unusedVariables false
set_option linter.unusedSimpArgs false
section
namespace Go.Proofs.YtdnfnkicmfkkmaaGreatDoor.Xl
open Go.RowKit UtfW
theorem grown_set (w : World) (p : Addr) (x : Value) : w.grownBy (w.setCell p x) (some p.block) := by
 refine ⟨rfl, rfl, rfl, by simp [World.setCell], fun k hk hne => ?_⟩;have : p.block ≠ k := fun e => hne (by rw [e])
 simp [World.setCell, Array.getElem?_modify, this]
theorem blk_setCell {w : World} {b i : Nat} {cs : Array Value} {E : TypeId} (h : w.heap[b]? = some (.cells cs E)) (v : Value) : (w.setCell ⟨b, i, none⟩ v).heap[b]? = some (.cells (cs.setIfInBounds i v) E) := by
 simp [World.setCell, Array.getElem?_modify, h]
end Go.Proofs.YtdnfnkicmfkkmaaGreatDoor.Xl
end

section

end

section
namespace Go.Proofs.YtdnfnkicmfkkmaaGreatDoor.Xl
open Go.RowKit UtfW
end Go.Proofs.YtdnfnkicmfkkmaaGreatDoor.Xl
end
