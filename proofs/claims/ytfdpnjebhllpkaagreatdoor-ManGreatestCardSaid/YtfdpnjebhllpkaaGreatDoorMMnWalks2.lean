/- What the frames of ManSwitches and ManGreatest call. -/
import Derived.Test.YtfdpnjebhllpkaaGreatDoorMMnOpen
import Derived.Test.YtfdpnjebhllpkaaGreatDoorMSgLaid
namespace Go.Proofs.YtfdpnjebhllpkaaGreatDoor
open Go.RowKit

theorem manSwitchesW.walk (ga la : Int) (Aa : Option Addr) (na ca : Nat) (sa : List Int) (gb lb : Int) (Ab : Option Addr) (nb cb : Nat) (sb : List Int) (A0 : Option Addr) (n0 c0 : Nat) (l0 : List Dk.Tr) (A1 : Option Addr) (n1 c1 : Nat) (l1 : List Dk.Tr) (W : World)
    (hL : laidMetH Tryz.prog Slm.laidList W) (_w0 : (Lit.int .i64 ga).wf = true) (_w1 : (Lit.int .i64 la).wf = true) (w2 : Ma.Is W Aa na ca sa) (_z2 : ∀ z ∈ sa, (Lit.int .i64 z).wf = true) (_w3 : (Lit.int .i64 gb).wf = true) (_w4 : (Lit.int .i64 lb).wf = true) (w5 : Ma.Is W Ab nb cb sb) (_z5 : ∀ z ∈ sb, (Lit.int .i64 z).wf = true)
    (w6 : Sq Dk.TrEl 3 W A0 n0 c0 l0) (w7 : Sq Dk.TrEl 3 W A1 n1 c1 l1) :
    Calls Tryz.prog 9 #[.agg #[.int .i64 ga, .int .i64 la, .slice Aa na ca], .agg #[.int .i64 gb, .int .i64 lb, .slice Ab nb cb], .agg #[.slice A0 n0 c0, .slice A1 n1 c1]] W fun e w' => e = .returned (.bool true) ∧ Below W.heap.size W w' :=
  Mn.switches_law ga la Aa na ca sa gb lb Ab nb cb sb A0 n0 c0 l0 A1 n1 c1 l1 W (Slm.en_of_laid hL) (Slm.eb_of_laid hL) w2 w5 w6 w7
theorem manGreatestW.walk (A : Option Addr) (n c : Nat) (l : List Mn.Mf) (W : World) (hL : laidMetH Tryz.prog Slm.laidList W) (w0 : Sq Mn.MfEl 3 W A n c l) (_z0 : True) :
    Calls Tryz.prog 8 #[.slice A n c] W fun e w' => e = .returned (.bool true) ∧ Below W.heap.size W w' :=
  Mn.great_law A n c l W (Slm.en_of_laid hL) (Slm.eb_of_laid hL) w0
end Go.Proofs.YtfdpnjebhllpkaaGreatDoor
