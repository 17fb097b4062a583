/- The walks of the laws over xlex: XlexPlaces. -/
import Derived.Test.YtcecmbbhjaeodaaGreatDoorMXlLawP
import Derived.Test.YtcecmbbhjaeodaaGreatDoorMXlLaid
namespace Go.Proofs.YtcecmbbhjaeodaaGreatDoor
open Go.RowKit UtfW Er Xl

namespace xlexPlacesW
theorem walk (A : Option Addr) (n c : Nat) (l : List UInt8) (W : World) (hL : laidMetH Tryz.prog Xl.laidList W) (hsh : W.ShapedOpen Tryz.prog) (hBs : Bs W A n c l) (_hz : c ≤ 140737488351232) :
    Calls Tryz.prog 4 #[.slice A n c] W fun e w' => e = .returned (.bool true) ∧ Below W.heap.size W w' :=
  places_law W A n c l hBs (un_of_laid hL hsh) (en_of_laid hL)
end xlexPlacesW
end Go.Proofs.YtcecmbbhjaeodaaGreatDoor
