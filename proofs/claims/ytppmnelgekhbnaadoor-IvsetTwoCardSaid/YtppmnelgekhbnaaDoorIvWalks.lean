/- What the frames of the laws call. -/
import Derived.Test.YtppmnelgekhbnaaDoorIvLawTwo
import Derived.Test.YtppmnelgekhbnaaDoorIvLaid
import Derived.Test.YtppmnelgekhbnaaDoorIvOpen
namespace Go.Proofs.YtppmnelgekhbnaaDoor
open Go.RowKit

theorem ivsetTwoW.walk (A : Option Addr) (n c : Nat) (la : List Iv.Span) (B : Option Addr) (m d : Nat) (lb : List Iv.Span) (W : World) (hL : laidMetH Tryd.prog IvW.laidList W) (hsh : W.ShapedOpen Tryd.prog)
    (hA : Rp W A n c la) (_z0 : True) (hB : Rp W B m d lb) (_z1 : True) :
    Calls Tryd.prog 4 #[.slice A n c, .slice B m d] W fun e w' => e = .returned (.bool true) ∧ Below W.heap.size W w' :=
  IvW.two_law A n c la B m d lb W (IvW.iw_of_laid hL hsh) hA hB
end Go.Proofs.YtppmnelgekhbnaaDoor
