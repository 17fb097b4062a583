/- What the frames call. -/
import Derived.Test.YtjhiihmibleecaaDoorDkBack
import Derived.Test.YtjhiihmibleecaaDoorDkOpen
import Derived.Test.YtjhiihmibleecaaDoorDkLaid
namespace Go.Proofs.YtjhiihmibleecaaDoor
open Go.RowKit

theorem diskAloneW.walk (A : Option Addr) (n c : Nat) (l : List Dk.In) (vs : List Value) (x : Dk.Dx) (W : World) (_hL : laidMetH Tryd.prog Dk.laidList W) (hF : Sq Dk.FeEl 3 W A n c l) (hz : ∀ f ∈ l, f.nm.length ≤ 140737488351232 ∧ f.data.length ≤ 140737488351232) (hx : Dk.DoEl W vs x) :
    Calls Tryd.prog 5 #[.slice A n c, .agg vs.toArray] W fun e w' => e = .returned (.bool true) ∧ Below W.heap.size W w' :=
  Dk.alone_law A n c l vs x W hF (fun f hf => (hz f hf).2) hx

theorem diskMovesW.walk (A : Option Addr) (n c : Nat) (l : List Dk.In) (s s2 : ByteArray) (W : World) (_hL : laidMetH Tryd.prog Dk.laidList W) (hF : Sq Dk.FeEl 3 W A n c l) (hz : ∀ f ∈ l, f.nm.length ≤ 140737488351232 ∧ f.data.length ≤ 140737488351232)
    (_w1 : s.size ≤ maxLen) (z1 : s.size ≤ 140737488351232) (_w2 : s2.size ≤ maxLen) (z2 : s2.size ≤ 140737488351232) :
    Calls Tryd.prog 3 #[.slice A n c, .string s, .string s2] W fun e w' => e = .returned (.bool true) ∧ Below W.heap.size W w' :=
  Dk.moves_law A n c l s s2 W hF (fun f hf => (hz f hf).2) z1 z2

theorem diskSafeW.walk (Ad : Option Addr) (nd cd : Nat) (data : List UInt8) (A : Option Addr) (n c : Nat) (l : List Dk.Dx) (At : Option Addr) (nt ct : Nat) (tails : List Int) (W : World) (_hL : laidMetH Tryd.prog Dk.laidList W)
    (hd : Bs W Ad nd cd data) (_z : cd ≤ 140737488351232) (hS : Sq Dk.DoEl 7 W A n c l) (_t : True) (ht : Rd W At nt ct (tails.map (Value.int .i64))) (_hz : ∀ z ∈ tails, (Lit.int .i64 z).wf = true) :
    Calls Tryd.prog 4 #[.slice Ad nd cd, .slice A n c, .slice At nt ct] W fun e w' => e = .returned (.bool true) ∧ Below W.heap.size W w' :=
  Dk.safe_law Ad nd cd data A n c l At nt ct tails W hd hS ht

theorem diskBackW.walk (A : Option Addr) (n c : Nat) (l : List Dk.In) (As : Option Addr) (ns cs_ : Nat) (ls : List Dk.Dx) (At : Option Addr) (nt ct : Nat) (tails : List Int) (W : World) (_hL : laidMetH Tryd.prog Dk.laidList W)
    (hF : Sq Dk.FeEl 3 W A n c l) (hz : ∀ f ∈ l, f.nm.length ≤ 140737488351232 ∧ f.data.length ≤ 140737488351232) (hS : Sq Dk.DoEl 7 W As ns cs_ ls) (_t : True) (ht : Rd W At nt ct (tails.map (Value.int .i64))) (_hz : ∀ z ∈ tails, (Lit.int .i64 z).wf = true) :
    Calls Tryd.prog 6 #[.slice A n c, .slice As ns cs_, .slice At nt ct] W fun e w' => e = .returned (.bool true) ∧ Below W.heap.size W w' :=
  Dk.back_law A n c l As ns cs_ ls At nt ct tails W hF (fun f hf => (hz f hf).2) hS ht
end Go.Proofs.YtjhiihmibleecaaDoor
