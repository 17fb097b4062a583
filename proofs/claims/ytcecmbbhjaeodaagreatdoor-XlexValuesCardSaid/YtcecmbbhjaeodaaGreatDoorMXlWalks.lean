/- The walks of the laws over xlex: XlexValues. -/
import Derived.Test.YtcecmbbhjaeodaaGreatDoorMXlLawV
import Derived.Test.YtcecmbbhjaeodaaGreatDoorMXlLaid
import Derived.Test.YtcecmbbhjaeodaaGreatDoorMStrs
namespace Go.Proofs.YtcecmbbhjaeodaaGreatDoor
open Go.RowKit UtfW Er Xl

namespace xlexValuesW
theorem walk (s : ByteArray) (single : Bool) (W : World) (hL : laidMetH Tryz.prog Xl.laidList W) (hsh : W.ShapedOpen Tryz.prog) (_ : s.size ≤ 9223372036854775807) (_ : s.size ≤ 140737488351232) :
    Calls Tryz.prog 7 #[.string s, .bool single] W fun e w' => e = .returned (.bool true) ∧ Below W.heap.size W w' := by
  have h := values_any W s.data.toList single (un_of_laid hL hsh) (en_of_laid hL)
  have e : strOf s.data.toList = s := by cases s; simp [strOf]
  rw [e] at h
  exact h
end xlexValuesW
end Go.Proofs.YtcecmbbhjaeodaaGreatDoor
