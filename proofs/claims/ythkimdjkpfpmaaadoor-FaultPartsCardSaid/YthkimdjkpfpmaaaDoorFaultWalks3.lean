/- What the frame of FaultParts calls. -/
import Derived.Test.YthkimdjkpfpmaaaDoorFaultWalks
import Derived.Test.YthkimdjkpfpmaaaDoorErrParts
namespace Go.Proofs.YthkimdjkpfpmaaaDoor
open Go.RowKit

theorem faultPartsW.walk (code : Int) (A : Option Addr) (n c : Nat) (sa : List ByteArray) (A2 : Option Addr) (n2 c2 : Nat) (sb : List ByteArray) (W : World) (hL : laidMetH Tryd.prog Er.laidList W) (w0 : (Lit.int .i64 code).wf)
    (hSa : Ss W A n c sa) (hza : ∀ s ∈ sa, s.size ≤ 140737488351232) (hSb : Ss W A2 n2 c2 sb) (hzb : ∀ s ∈ sb, s.size ≤ 140737488351232) (hn1 : n ≤ 140737488351232) (hn2 : n2 ≤ 140737488351232) :
    Calls Tryd.prog 3 #[.int .i64 code, .slice A n c, .slice A2 n2 c2] W fun e w' => e = .returned (.bool true) ∧ Below W.heap.size W w' := by
  have hE := Er.en_of_laid hL
  by_cases hn : n + n2 ≤ 50
  · by_cases h0 : code = 0
    · subst h0
      exact Er.parts_ok A n c sa A2 n2 c2 sb hn _ W hSa hSb hE
    · exact Er.parts_any code h0 (wf_of w0) A n c sa A2 n2 c2 sb hn hza hzb _ W hSa hSb hE
  · exact Er.parts_many code A n c A2 n2 c2 (by omega) (by omega) (by omega) _ W hE
end Go.Proofs.YthkimdjkpfpmaaaDoor
