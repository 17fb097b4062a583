/- What the frames call: the walks of the laws over fault, for every input. -/
import Derived.Test.YthkimdjkpfpmaaaDoorErrLaws2
import Derived.Test.YthkimdjkpfpmaaaDoorErrLaid
namespace Go.Proofs.YthkimdjkpfpmaaaDoor
open Go.RowKit

theorem wf_of {n : Int} (h : (Lit.int .i64 n).wf) : Er.Wf n := by
  have h1 : IntKind.i64.min ≤ n ∧ n ≤ IntKind.i64.max := by simpa [Lit.wf] using h
  exact ⟨h1.1, h1.2⟩

theorem faultCodesW.walk (code at_ : Int) (A : Option Addr) (n c : Nat) (ss : List ByteArray) (W : World) (hL : laidMetH Tryd.prog Er.laidList W) (w0 : (Lit.int .i64 code).wf) (w1 : (Lit.int .i64 at_).wf)
    (hS : Ss W A n c ss) (hz : ∀ s ∈ ss, s.size ≤ 140737488351232) :
    Calls Tryd.prog 4 #[.int .i64 code, .int .i64 at_, .slice A n c] W fun e w' => e = .returned (.bool true) ∧ Below W.heap.size W w' := by
  have hE := Er.en_of_laid hL
  by_cases hn : n ≤ 50
  · by_cases h0 : code = 0
    · subst h0
      exact Er.codes_ok at_ A n c ss hn _ W hS hE
    · exact Er.codes_any code at_ h0 (wf_of w0) (wf_of w1) A n c ss hn hz _ W hS hE
  · exact Er.codes_many code at_ A n c (by omega) _ W hE

theorem faultWrapsW.walk (code at_ : Int) (s : ByteArray) (W : World) (hL : laidMetH Tryd.prog Er.laidList W) (w0 : (Lit.int .i64 code).wf) (w1 : (Lit.int .i64 at_).wf) (_hw : s.size ≤ maxLen) (hz : s.size ≤ 140737488351232) :
    Calls Tryd.prog 5 #[.int .i64 code, .int .i64 at_, .string s] W fun e w' => e = .returned (.bool true) ∧ Below W.heap.size W w' := by
  have hE := Er.en_of_laid hL
  by_cases h0 : code = 0
  · subst h0
    exact Er.wraps_ok at_ s _ W hE
  · exact Er.wraps_any code at_ h0 (wf_of w0) (wf_of w1) s hz _ W hE
end Go.Proofs.YthkimdjkpfpmaaaDoor
