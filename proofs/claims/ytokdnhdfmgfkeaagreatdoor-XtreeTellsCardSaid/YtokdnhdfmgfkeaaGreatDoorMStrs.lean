/- Slices of strings that read as lists. -/
import Derived.Test.YtokdnhdfmgfkeaaGreatDoorMRowS
import Derived.SliceStrings
namespace Go.Proofs.YtokdnhdfmgfkeaaGreatDoor
open Go.RowKit Go.ChangeShapes

section
variable {w w' : World} {A : Option Addr} {n c : Nat} {ss : List ByteArray}
end

section
variable {H : Type} {enc : TypeId × Value → H} {P : Program} {w : World} {t e : TypeId}

theorem Sized.string {s : ByteArray} (h : Sized P t (DataW.lit (H := H) (.string s.data.toList))) : s.size ≤ 140737488351232 := h s.size (by
  show s.size ∈ [s.data.toList.length]
  rw [Array.length_toList]
  exact List.mem_singleton.2 rfl)

end
end Go.Proofs.YtokdnhdfmgfkeaaGreatDoor
