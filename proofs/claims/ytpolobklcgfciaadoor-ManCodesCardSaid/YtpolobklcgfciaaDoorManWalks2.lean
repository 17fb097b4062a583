/- What the frame of ManCodes calls. -/
import Derived.Test.YtpolobklcgfciaaDoorManCodesLaw
import Derived.Test.YtpolobklcgfciaaDoorManLaid2
import Derived.Test.YtpolobklcgfciaaDoorInts
import Derived.Test.YtpolobklcgfciaaDoorStrs
namespace Go.Proofs.YtpolobklcgfciaaDoor
open Go.RowKit

theorem manCodesW.walk (g la : Int) (A : Option Addr) (n c : Nat) (ss : List Int) (B : Option Addr) (nb cb : Nat) (l : List UInt8) (s : ByteArray) (W : World) (hL : laidMetH Tryd.prog Mc.laidList W) (_w0 : (Lit.int .i64 g).wf) (_w1 : (Lit.int .i64 la).wf)
    (hI : Rd W A n c (ss.map (Value.int .i64))) (_hz : ∀ z ∈ ss, (Lit.int .i64 z).wf = true) (hBs : Bs W B nb cb l) (_hz2 : cb ≤ 140737488351232) (_hw : s.size ≤ maxLen) (hz3 : s.size ≤ 140737488351232) :
    Calls Tryd.prog 4 #[.agg #[.int .i64 g, .int .i64 la, .slice A n c], .slice B nb cb, .string s] W fun e w' => e = .returned (.bool true) ∧ Below W.heap.size W w' :=
  Ma.codes_law g la A n c ss B nb cb l s (by omega) W (Mc.tens_of_laid hL) (Mc.ev_of_laid hL) hI hBs
end Go.Proofs.YtpolobklcgfciaaDoor
