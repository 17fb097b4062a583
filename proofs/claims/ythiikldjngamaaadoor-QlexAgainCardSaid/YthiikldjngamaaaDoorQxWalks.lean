/- What the frames call. -/
import Derived.Test.YthiikldjngamaaaDoorQxLaid
import Derived.Test.YthiikldjngamaaaDoorStrs
import Derived.Test.YthiikldjngamaaaDoorQxAgainLaw
import Derived.Test.YthiikldjngamaaaDoorQxQuotesLaw
namespace Go.Proofs.YthiikldjngamaaaDoor
open Go.RowKit

theorem qlexAgainW.walk (s : ByteArray) (W : World) (hL : laidMetH Tryd.prog Qx.laidList W) (_hw : s.size ≤ maxLen) (hz : s.size ≤ 140737488351232) :
    Calls Tryd.prog 3 #[.string s] W fun e w' => e = .returned (.bool true) ∧ Below W.heap.size W w' :=
  Qx.again_law s hz W (Qx.ut_of_laid hL) (Qx.en_of_laid hL)

theorem qlexWordsW.walk (a b : Int) (W : World) (hL : laidMetH Tryd.prog Qx.laidList W) (w0 : (Lit.int .u8 a).wf) (w1 : (Lit.int .u8 b).wf) :
    Calls Tryd.prog 4 #[.int .u8 a, .int .u8 b] W fun e w' => e = .returned (.bool true) ∧ Below W.heap.size W w' := by
  have h0 : IntKind.u8.min ≤ a ∧ a ≤ IntKind.u8.max := by simpa [Lit.wf] using w0
  have h1 : IntKind.u8.min ≤ b ∧ b ≤ IntKind.u8.max := by simpa [Lit.wf] using w1
  exact Qx.words_law a b h0 h1 W (Qx.ut_of_laid hL) (Qx.en_of_laid hL)

theorem qlexQuotesW.walk (s : ByteArray) (b : Bool) (n : Int) (W : World) (hL : laidMetH Tryd.prog Qx.laidList W) (_hw : s.size ≤ maxLen) (hz : s.size ≤ 140737488351232) (w2 : (Lit.int .u32 n).wf) :
    Calls Tryd.prog 5 #[.string s, .bool b, .int .u32 n] W fun e w' => e = .returned (.bool true) ∧ Below W.heap.size W w' := by
  obtain ⟨l, rfl⟩ : ∃ l, s = strOf l := ⟨s.data.toList, rfl⟩
  rw [strOf_size'] at hz
  have hn : IntKind.u32.min ≤ n ∧ n ≤ IntKind.u32.max := by simpa [Lit.wf] using w2
  cases b
  · exact Qx.quotes_double l n hn.1 hn.2 hz W (Qx.ut_of_laid hL) (Qx.en_of_laid hL)
  · exact Qx.quotes_single l n hn.1 hn.2 hz W (Qx.ut_of_laid hL) (Qx.en_of_laid hL)
end Go.Proofs.YthiikldjngamaaaDoor
