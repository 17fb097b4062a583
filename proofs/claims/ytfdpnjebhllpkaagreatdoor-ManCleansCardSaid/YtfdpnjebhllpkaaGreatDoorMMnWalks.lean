/- What the frame of ManCleans calls. -/
import Derived.Test.YtfdpnjebhllpkaaGreatDoorMMnCleans
import Derived.Test.YtfdpnjebhllpkaaGreatDoorMSgLaid
import Derived.Test.YtfdpnjebhllpkaaGreatDoorMDkOpen
import Derived.Test.YtfdpnjebhllpkaaGreatDoorMInts
namespace Go.Proofs.YtfdpnjebhllpkaaGreatDoor
open Go.RowKit

theorem manCleansW.walk (A : Option Addr) (n c : Nat) (l : List Dk.In) (g la : Int) (As : Option Addr) (ns cs_ : Nat) (ss : List Int) (W : World) (hL : laidMetH Tryz.prog Slm.laidList W) (w0 : Sq Dk.FeEl 3 W A n c l) (z0 : ∀ f ∈ l, f.nm.length ≤ 140737488351232 ∧ f.data.length ≤ 140737488351232)
    (_w1 : (Lit.int .i64 g).wf = true) (_w2 : (Lit.int .i64 la).wf = true) (w3 : Ma.Is W As ns cs_ ss) (_z3 : ∀ z ∈ ss, (Lit.int .i64 z).wf = true) :
    Calls Tryz.prog 7 #[.slice A n c, .agg #[.int .i64 g, .int .i64 la, .slice As ns cs_]] W fun e w' => e = .returned (.bool true) ∧ Below W.heap.size W w' :=
  Mn.cleans_law A n c l g la As ns cs_ ss W (Slm.en_of_laid hL) (Slm.eb_of_laid hL) w0 (fun f hf => (z0 f hf).2) w3
end Go.Proofs.YtfdpnjebhllpkaaGreatDoor
