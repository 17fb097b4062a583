/- The rows' list, and a world that meets it. -/
import Derived.Test.YtjhiihmibleecaaDoorDkAct
import Derived.Test.YtjhiihmibleecaaDoorRows
import Derived.Lib.LaidU8T
import Derived.LaidLaws
import Derived.LaidHandle
import Derived.LaidSub
import Derived.Lib.LaidTab
import Derived.Lib.LaidIn
namespace Go.Proofs.YtjhiihmibleecaaDoor.Dk
open Go.RowKit Go.Shelf

/-- The rows' list. -/
abbrev laidList : List (String × DataW Unit) := Rows.diskAloneRow.laid

/-- A variable's cells laid. -/
def putVar (g : Nat) (cs : Array Value) (h : Array Obj) : Array Obj := h.modify g fun
  | .cells _ t frozen => .cells cs t frozen
  | o => o

/-- A world that meets the list: the settled one, the variables' cells laid. -/
noncomputable def laidWorld (os : Os) : World :=
  let w0 := World.holding Tryd.prog os ⟨#[], #[], []⟩
  let h1 := putVar 0 (Lib.firstTab.map fun z => Value.int .u8 z).toArray w0.heap
  let h2 := putVar 1 ((List.range 16).flatMap fun i => [Value.int .u8 (Lib.accLo i), Value.int .u8 (Lib.accHi i)]).toArray h1
  { w0 with heap := h2 }

theorem laidWorld_met (os : Os) (args : Array Value) : laidMetH Tryd.prog laidList ((laidWorld os).forCall (fun _ _ => 0) ⟨#[], args, []⟩).memory :=
  laidMetH_of_parts (laidMet_of_run' 8 (by kernel_rfl) (by kernel_rfl)) (by kernel_rfl)
end Go.Proofs.YtjhiihmibleecaaDoor.Dk
