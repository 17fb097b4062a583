/- The walks of the laws over xlex: XlexPlain. -/
import Derived.Test.YtcecmbbhjaeodaaGreatDoorMXlLawR
import Derived.Test.YtcecmbbhjaeodaaGreatDoorMXlLaid
import Derived.Test.YtcecmbbhjaeodaaGreatDoorMInts
import Derived.Test.YtcecmbbhjaeodaaGreatDoorMStrs
namespace Go.Proofs.YtcecmbbhjaeodaaGreatDoor
open Go.RowKit UtfW Er Xl

namespace xlexPlainW
theorem walk (s : ByteArray) (r : Int) (W : World) (hL : laidMetH Tryz.prog Xl.laidList W) (hsh : W.ShapedOpen Tryz.prog) (_ : s.size ≤ 9223372036854775807) (_ : s.size ≤ 140737488351232) (w1 : (Lit.int .i32 r).wf) :
    Calls Tryz.prog 6 #[.string s, .int .i32 r] W fun e w' => e = .returned (.bool true) ∧ Below W.heap.size W w' := by
  have hr : IntKind.i32.min ≤ r ∧ r ≤ IntKind.i32.max := by simpa [Lit.wf] using w1
  have h := plain_law W s.data.toList r (un_of_laid hL hsh) (en_of_laid hL) hr.1 hr.2
  have e : strOf s.data.toList = s := by cases s; simp [strOf]
  rw [e] at h
  exact h
end xlexPlainW
end Go.Proofs.YtcecmbbhjaeodaaGreatDoor
