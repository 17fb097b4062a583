/- Slices of strings that read as lists. -/
import Derived.Test.YtokdnhdfmgfkeaaGreatDoorMRowS
import Derived.SliceStrings
namespace Go.Proofs.YtokdnhdfmgfkeaaGreatDoor
open Go.RowKit Go.ChangeShapes
def Ss (w : World) (A : Option Addr) (n c : Nat) (ss : List ByteArray) : Prop := Rd w A n c (ss.map Value.string)
section
variable {w w' : World} {A : Option Addr} {n c : Nat} {ss : List ByteArray}
theorem Ss.len (h : Ss w A n c ss) : ss.length = n := by simpa using Rd.len h
theorem Ss.below (h : Ss w A n c ss) (hb : Below w.heap.size w w') : Ss w' A n c ss := Rd.below h hb
end
section
variable {H : Type} {enc : TypeId × Value -> H} {P : Program} {w : World} {t e : TypeId}
theorem Sized.string {s : ByteArray} (h : Sized P t (DataW.lit (H := H) (.string s.data.toList))) : s.size <= 140737488351232 := h s.size (by
 show s.size ∈ [s.data.toList.length]
 rw [Array.length_toList]
 exact List.mem_singleton.2 rfl)
end
end Go.Proofs.YtokdnhdfmgfkeaaGreatDoor
