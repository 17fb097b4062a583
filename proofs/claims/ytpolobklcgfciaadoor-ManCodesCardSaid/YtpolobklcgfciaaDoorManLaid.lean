/- What ManBack's list gives, and a world that meets it. -/
import Derived.Test.YtpolobklcgfciaaDoorItoaS
import Derived.Test.YtpolobklcgfciaaDoorRows
import Derived.LaidLaws
import Derived.LaidHandle
import Derived.LaidSub
import Derived.Lib.LaidTab
namespace Go.Proofs.YtpolobklcgfciaaDoor.Ma
open Go.RowKit

/-- The row's list. -/
abbrev laidList : List (String × DataW Unit) := Rows.manBackRow.laid

theorem tens_of_laid {W : World} (h : laidMetH Tryd.prog laidList W) : Nu.Tens W := by
  have h1 : laidMetH Tryd.prog [("internal/strconv.uint64pow10", Rows.laid_internal_strconv_uint64pow10)] W := h.filter (fun x => x.1 == "internal/strconv.uint64pow10")
  have h' : laidMet Tryd.prog [("internal/strconv.uint64pow10", Lib.tabData .u64 Lib.pow10Tab)] W := h1
  exact Nu.Tens.of_tab (Lib.tabIs_of_head (rest := []) (g := 3) (by kernel_rfl) (t := 103) (by kernel_rfl) Tryd.underlying103 Tryd.underlying76 (by kernel_rfl) (by kernel_rfl) h')

/-- The cells of a table of numbers. -/
def tabCells (k : IntKind) (zs : List Int) : Array Value := (zs.map (Value.int k)).toArray

/-- A variable's cells laid. -/
def putVar (g : Nat) (cs : Array Value) (h : Array Obj) : Array Obj := h.modify g fun
  | .cells _ t frozen => .cells cs t frozen
  | o => o

/-- A world that meets the list: the settled one, the variables' cells laid. -/
noncomputable def laidWorld (os : Os) : World :=
  let w0 := World.holding Tryd.prog os ⟨#[], #[], []⟩
  let h2 := putVar 3 (tabCells .u64 Lib.pow10Tab) w0.heap
  let h3 := putVar 4 (tabCells .u8 [0, 1, 28, 2, 29, 14, 24, 3, 30, 22, 20, 15, 25, 17, 4, 8, 31, 27, 13, 23, 21, 19, 16, 7, 26, 12, 18, 6, 11, 5, 10, 9]) h2
  let h4 := putVar 5 (tabCells .u8 [0, 1, 56, 2, 57, 49, 28, 3, 61, 58, 42, 50, 38, 29, 17, 4, 62, 47, 59, 36, 45, 43, 51, 22, 53, 39, 33, 30, 24, 18, 12, 5, 63, 55, 48, 27, 60, 41, 37, 16, 46, 35, 44, 21, 52, 32, 23, 11, 54, 26, 40, 15, 34, 20, 31, 10, 25, 14, 19, 9, 13, 8, 7, 6]) h3
  { w0 with heap := h4 }

theorem laidWorld_met (os : Os) (args : Array Value) : laidMetH Tryd.prog laidList ((laidWorld os).forCall (fun _ _ => 0) ⟨#[], args, []⟩).memory :=
  laidMetH_of_parts (laidMet_of_run' 8 (by kernel_rfl) (by kernel_rfl)) (by kernel_rfl)
end Go.Proofs.YtpolobklcgfciaaDoor.Ma
