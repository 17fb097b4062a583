/- What the frame of IvsetOne calls. -/
import Derived.Test.YtppmnelgekhbnaaGreatDoorIvLawOne
import Derived.Test.YtppmnelgekhbnaaGreatDoorIvLaidZ
import Derived.Test.YtppmnelgekhbnaaGreatDoorIvOpen
import Derived.Test.YtppmnelgekhbnaaGreatDoorInts
namespace Go.Proofs.YtppmnelgekhbnaaGreatDoor
open Go.RowKit

theorem ivsetOneW.walk (A : Option Addr) (n c : Nat) (la : List Iv.Span) (v : Int) (B : Option Addr) (m d : Nat) (zs : List Int) (W : World) (hL : laidMetH Tryz.prog IvW.laidList W) (hsh : W.ShapedOpen Tryz.prog)
    (hA : Rp W A n c la) (_z0 : True) (_hw : (Lit.int .i64 v).wf) (hI : Rd W B m d (zs.map (Value.int .i64))) (_hz : ∀ z ∈ zs, (Lit.int .i64 z).wf = true) :
    Calls Tryz.prog 3 #[.slice A n c, .int .i64 v, .slice B m d] W fun e w' => e = .returned (.bool true) ∧ Below W.heap.size W w' :=
  IvW.one_law A n c la v B m d zs W (IvW.iw_of_laid hL hsh) hA hI
end Go.Proofs.YtppmnelgekhbnaaGreatDoor
