/- The walks of the laws over what is written: XoutTexts. -/
import Derived.Test.YtokdnhdfmgfkeaaGreatDoorVRowS
import Derived.SliceStrings
import Derived.Test.YtokdnhdfmgfkeaaGreatDoorVXtLaid
section
namespace Go.Proofs.YtokdnhdfmgfkeaaGreatDoor
open Go.RowKit Go.ChangeShapes

section
variable {w w' : World} {A : Option Addr} {n c : Nat} {ss : List ByteArray}
end

section
variable {H : Type} {enc : TypeId × Value → H} {P : Program} {w : World} {t e : TypeId}

theorem Sized.string {s : ByteArray} (h : Sized P t (DataW.lit (H := H) (.string s.data.toList))) : s.size ≤ 140737488351232 := h s.size (by
 show s.size ∈ [s.data.toList.length]
 rw [Array.length_toList]
 exact List.mem_singleton.2 rfl)

end
end Go.Proofs.YtokdnhdfmgfkeaaGreatDoor
end

section
namespace Go.Proofs.YtokdnhdfmgfkeaaGreatDoor
open Go.RowKit UtfW Er Xl

namespace xoutTextsW
theorem walk (s t : ByteArray) (W : World) (hL : laidMetH Tryz.prog Xl.laidList W) (hsh : W.ShapedOpen Tryz.prog) (_ : s.size ≤ 9223372036854775807) (_ : s.size ≤ 140737488351232) (_ : t.size ≤ 9223372036854775807) (_ : t.size ≤ 140737488351232) :
  Calls Tryz.prog 10 #[.string s, .string t] W fun e w' => e = .returned (.bool true) ∧ Below W.heap.size W w' := by
 have h := Xp.texts_law W (un_of_laid hL hsh) (en_of_laid hL) s.data.toList t.data.toList
 have e : strOf s.data.toList = s := by cases s; simp [strOf]
 have e2 : strOf t.data.toList = t := by cases t; simp [strOf]
 rw [e, e2] at h
 exact h
end xoutTextsW
end Go.Proofs.YtokdnhdfmgfkeaaGreatDoor
end
