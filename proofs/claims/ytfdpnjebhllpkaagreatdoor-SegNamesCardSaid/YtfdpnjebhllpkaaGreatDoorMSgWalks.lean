/- What the frames of SegScans and SegNames call. -/
import Derived.Test.YtfdpnjebhllpkaaGreatDoorMSgLaws
import Derived.Test.YtfdpnjebhllpkaaGreatDoorMSgLaid
import Derived.Test.YtfdpnjebhllpkaaGreatDoorMStrs
namespace Go.Proofs.YtfdpnjebhllpkaaGreatDoor
open Go.RowKit

theorem segScansW.walk (n : Int) (A : Option Addr) (nb cb : Nat) (l : List UInt8) (W : World) (hL : laidMetH Tryz.prog Sla.laidList W) (_w0 : (Lit.int .i64 n).wf = true) (w1 : Bs W A nb cb l) (_z1 : cb ≤ 140737488351232) :
    Calls Tryz.prog 3 #[.int .i64 n, .slice A nb cb] W fun e w' => e = .returned (.bool true) ∧ Below W.heap.size W w' :=
  Sg.scans_law n A nb cb l W (Sla.te_of_laid hL) w1
theorem segNamesW.walk (n : Int) (s : ByteArray) (W : World) (hL : laidMetH Tryz.prog Slb.laidList W) (_w0 : (Lit.int .i64 n).wf = true) (w1 : s.size ≤ maxLen) (_z1 : s.size ≤ 140737488351232) :
    Calls Tryz.prog 4 #[.int .i64 n, .string s] W fun e w' => e = .returned (.bool true) ∧ Below W.heap.size W w' :=
  Sg.names_law n s (by unfold maxLen at w1; omega) W (Slb.te_of_laid hL) (Slb.eb_of_laid hL)
end Go.Proofs.YtfdpnjebhllpkaaGreatDoor
