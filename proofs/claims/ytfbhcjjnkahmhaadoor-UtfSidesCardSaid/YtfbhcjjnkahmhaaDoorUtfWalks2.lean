/- What the frames call, second part. -/
import Derived.Test.YtfbhcjjnkahmhaaDoorUtfWalks
import Derived.Test.YtfbhcjjnkahmhaaDoorUtfBack
import Derived.Test.YtfbhcjjnkahmhaaDoorUtfSides
import Derived.Test.YtfbhcjjnkahmhaaDoorInts
namespace Go.Proofs.YtfbhcjjnkahmhaaDoor
open Go.RowKit

theorem utfBackW.walk (A : Option Addr) (n c : Nat) (zs : List Int) (W : World) (hL : laidMetH Tryd.prog UtfW.laidList W) (hsh : W.ShapedOpen Tryd.prog) (hR : Rd W A n c (zs.map (Value.int .i32))) (hz : ∀ z ∈ zs, (Lit.int .i32 z).wf = true) :
    Calls Tryd.prog 5 #[.slice A n c] W fun e w' => e = .returned (.bool true) ∧ Below W.heap.size W w' :=
  UtfW.back_law A n c zs W hR (fun z h => wf_of (hz z h)) (UtfW.ut_of_laid hL hsh)

theorem utfSidesW.walk (s : ByteArray) (r : Int) (W : World) (hL : laidMetH Tryd.prog UtfW.laidList W) (hsh : W.ShapedOpen Tryd.prog) (_hw : s.size ≤ maxLen) (_hz : s.size ≤ 140737488351232) (w1 : (Lit.int .i32 r).wf) :
    Calls Tryd.prog 7 #[.string s, .int .i32 r] W fun e w' => e = .returned (.bool true) ∧ Below W.heap.size W w' :=
  UtfW.sides_law s r (wf_of w1).1 (wf_of w1).2 W (UtfW.ut_of_laid hL hsh)
end Go.Proofs.YtfbhcjjnkahmhaaDoor
