/- What the frames call: the walks of the laws over utf, for every input. -/
import Derived.Test.YtfbhcjjnkahmhaaDoorUtfLaws
import Derived.Test.YtfbhcjjnkahmhaaDoorUtfLaid
namespace Go.Proofs.YtfbhcjjnkahmhaaDoor
open Go.RowKit

theorem wf_of {n : Int} (h : (Lit.int .i32 n).wf) : -2147483648 ≤ n ∧ n ≤ 2147483647 := by
  have h1 : IntKind.i32.min ≤ n ∧ n ≤ IntKind.i32.max := by simpa [Lit.wf] using h
  exact ⟨h1.1, h1.2⟩

theorem utfNextW.walk (A : Option Addr) (n c : Nat) (l : List UInt8) (a : Int) (W : World) (hL : laidMetH Tryd.prog UtfW.laidList W) (hsh : W.ShapedOpen Tryd.prog) (hBs : Bs W A n c l) (_hz : c ≤ 140737488351232) (_w1 : (Lit.int .i64 a).wf) :
    Calls Tryd.prog 3 #[.slice A n c, .int .i64 a] W fun e w' => e = .returned (.bool true) ∧ Below W.heap.size W w' :=
  UtfW.next_law A n c l a W hBs (UtfW.ut_of_laid hL hsh)

theorem utfRunesW.walk (r : Int) (W : World) (hL : laidMetH Tryd.prog UtfW.laidList W) (hsh : W.ShapedOpen Tryd.prog) (w0 : (Lit.int .i32 r).wf) :
    Calls Tryd.prog 4 #[.int .i32 r] W fun e w' => e = .returned (.bool true) ∧ Below W.heap.size W w' :=
  UtfW.runes_law r (wf_of w0).1 (wf_of w0).2 W (UtfW.ut_of_laid hL hsh)

theorem utfTextsW.walk (s : ByteArray) (W : World) (hL : laidMetH Tryd.prog UtfW.laidList W) (hsh : W.ShapedOpen Tryd.prog) (_hw : s.size ≤ maxLen) (_hz : s.size ≤ 140737488351232) :
    Calls Tryd.prog 6 #[.string s] W fun e w' => e = .returned (.bool true) ∧ Below W.heap.size W w' :=
  UtfW.texts_law s W (UtfW.ut_of_laid hL hsh)
end Go.Proofs.YtfbhcjjnkahmhaaDoor
