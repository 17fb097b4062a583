/- The walks of the laws over xlex: XlexJoins. -/
import Derived.Test.YtcecmbbhjaeodaaGreatDoorMXlLawJ
import Derived.Test.YtcecmbbhjaeodaaGreatDoorMXlLaid
namespace Go.Proofs.YtcecmbbhjaeodaaGreatDoor
open Go.RowKit UtfW Er Xl

namespace xlexJoinsW
theorem walk (A : Option Addr) (n c : Nat) (l : List UInt8) (A2 : Option Addr) (n2 c2 : Nat) (l2 : List UInt8) (W : World) (hL : laidMetH Tryz.prog Xl.laidList W) (hsh : W.ShapedOpen Tryz.prog) (hBs : Bs W A n c l) (_hz : c ≤ 140737488351232) (hBs2 : Bs W A2 n2 c2 l2) (_hz2 : c2 ≤ 140737488351232) :
    Calls Tryz.prog 5 #[.slice A n c, .slice A2 n2 c2] W fun e w' => e = .returned (.bool true) ∧ Below W.heap.size W w' :=
  joins_law W A A2 n c n2 c2 l l2 hBs hBs2 (un_of_laid hL hsh) (en_of_laid hL)
end xlexJoinsW
end Go.Proofs.YtcecmbbhjaeodaaGreatDoor
