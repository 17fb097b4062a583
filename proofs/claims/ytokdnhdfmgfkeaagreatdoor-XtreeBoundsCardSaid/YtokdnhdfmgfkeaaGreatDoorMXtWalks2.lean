/- The walks of the laws over trees: XtreeBounds. -/
import Derived.Test.YtokdnhdfmgfkeaaGreatDoorMXtLawB
import Derived.Test.YtokdnhdfmgfkeaaGreatDoorMXtWalks
namespace Go.Proofs.YtokdnhdfmgfkeaaGreatDoor
open Go.RowKit UtfW Er Xl

namespace xtreeBoundsW
theorem walk (A : Option Addr) (n c : Nat) (l : List UInt8) (W : World) (hL : laidMetH Tryz.prog Xl.laidList W) (hsh : W.ShapedOpen Tryz.prog) (hBs : Bs W A n c l) (_hz : c ≤ 140737488351232) :
    Calls Tryz.prog 5 #[.slice A n c] W fun e w' => e = .returned (.bool true) ∧ Below W.heap.size W w' :=
  Xt.bounds_law W (un_of_laid hL hsh) (en_of_laid hL) A n c l hBs
end xtreeBoundsW
end Go.Proofs.YtokdnhdfmgfkeaaGreatDoor
