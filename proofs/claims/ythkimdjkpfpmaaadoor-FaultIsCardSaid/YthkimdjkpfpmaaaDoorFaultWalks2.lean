/- What the frame of FaultIs calls. -/
import Derived.Test.YthkimdjkpfpmaaaDoorFaultWalks
import Derived.Test.YthkimdjkpfpmaaaDoorErrIs2
namespace Go.Proofs.YthkimdjkpfpmaaaDoor
open Go.RowKit

theorem faultIsW.walk (code other : Int) (A : Option Addr) (n c : Nat) (ss : List ByteArray) (W : World) (hL : laidMetH Tryd.prog Er.laidList W) (_w0 : (Lit.int .i64 code).wf) (_w1 : (Lit.int .i64 other).wf)
    (hS : Ss W A n c ss) (_hz : ∀ s ∈ ss, s.size ≤ 140737488351232) :
    Calls Tryd.prog 6 #[.int .i64 code, .int .i64 other, .slice A n c] W fun e w' => e = .returned (.bool true) ∧ Below W.heap.size W w' := by
  have hE := Er.en_of_laid hL
  by_cases hn : n ≤ 50
  · by_cases h0 : code = 0
    · subst h0
      exact Er.is_ok other A n c ss hn _ W hS hE
    · exact Er.is_any code other h0 A n c ss hn _ W hS hE
  · exact Er.is_many code other A n c (by omega) _ W hE
end Go.Proofs.YthkimdjkpfpmaaaDoor
