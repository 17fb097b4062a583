/- Strings as lists of bytes. -/
import Derived.Test.YtcecmbbhjaeodaaGreatDoorMWords
import Derived.Lib.Strings
namespace Go.Proofs.YtcecmbbhjaeodaaGreatDoor
open Go.RowKit

theorem strOf_size' (l : List UInt8) : (strOf l).size = l.length := by simp [strOf, ByteArray.size]
theorem strOf_data' (l : List UInt8) : (strOf l).data.toList = l := rfl
theorem strOf_of' (s : ByteArray) : strOf s.data.toList = s := rfl
theorem strOf_add (a b : List UInt8) : strOf a ++ strOf b = strOf (a ++ b) := by
  unfold strOf
  apply ByteArray.ext
  simp [ByteArray.data_append]
theorem strOf_cut (l : List UInt8) (a b : Nat) : (strOf l).extract a b = strOf ((l.drop a).take (b - a)) := by
  apply ByteArray.ext
  apply Array.ext'
  rw [ByteArray.data_extract, Array.toList_extract]
  rfl
theorem strOf_inj {a b : List UInt8} (h : strOf a = strOf b) : a = b := by
  have := congrArg (fun s : ByteArray => s.data.toList) h
  exact this
theorem strOf_empty (l : List UInt8) : (strOf l).toList.isEmpty = l.isEmpty := by
  rw [Lib.toList_data]
  rfl
theorem str_beq (a b : ByteArray) : (a.toList == b.toList) = decide (a = b) := by
  rw [Lib.toList_data, Lib.toList_data, Bool.eq_iff_iff, beq_iff_eq, decide_eq_true_eq]
  constructor
  · intro h
    apply ByteArray.ext
    exact Array.ext' h
  · intro h
    rw [h]
end Go.Proofs.YtcecmbbhjaeodaaGreatDoor
