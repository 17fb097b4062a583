/- What the frame of ManPlays calls. -/
import Derived.Test.YtfdpnjebhllpkaaGreatDoorMMnPlays
import Derived.Test.YtfdpnjebhllpkaaGreatDoorMMnOpen
import Derived.Test.YtfdpnjebhllpkaaGreatDoorMSgLaid
namespace Go.Proofs.YtfdpnjebhllpkaaGreatDoor
open Go.RowKit

theorem manPlaysW.walk (A : Option Addr) (n c : Nat) (l : List Dk.In) (g la : Int) (As : Option Addr) (ns cs_ : Nat) (ss : List Int) (At : Option Addr) (nt ct : Nat) (trs : List Dk.Tr) (W : World) (hL : laidMetH Tryz.prog Slm.laidList W) (w0 : Sq Dk.FeEl 3 W A n c l) (z0 : ∀ f ∈ l, f.nm.length ≤ 140737488351232 ∧ f.data.length ≤ 140737488351232)
    (_w1 : (Lit.int .i64 g).wf = true) (_w2 : (Lit.int .i64 la).wf = true) (w3 : Ma.Is W As ns cs_ ss) (_z3 : ∀ z ∈ ss, (Lit.int .i64 z).wf = true) (w4 : Sq Dk.TrEl 3 W At nt ct trs) (_z4 : True) :
    Calls Tryz.prog 10 #[.slice A n c, .agg #[.int .i64 g, .int .i64 la, .slice As ns cs_], .slice At nt ct] W fun e w' => e = .returned (.bool true) ∧ Below W.heap.size W w' :=
  Mn.mplays_law A n c l g la As ns cs_ ss At nt ct trs W (Slm.en_of_laid hL) (Slm.eb_of_laid hL) w0 (fun f hf => (z0 f hf).2) w3 w4
end Go.Proofs.YtfdpnjebhllpkaaGreatDoor
