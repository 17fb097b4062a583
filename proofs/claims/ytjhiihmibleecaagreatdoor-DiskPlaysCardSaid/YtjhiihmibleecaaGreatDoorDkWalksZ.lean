/- What the frame of DiskPlays calls. -/
import Derived.Test.YtjhiihmibleecaaGreatDoorDkAct
import Derived.Test.YtjhiihmibleecaaGreatDoorRows
import Derived.Lib.LaidU8T
import Derived.LaidLaws
import Derived.LaidHandle
import Derived.LaidSub
import Derived.Lib.LaidTab
import Derived.Lib.LaidIn
import Derived.Test.YtjhiihmibleecaaGreatDoorDkPlays
import Derived.Test.YtjhiihmibleecaaGreatDoorDkOpen
section
namespace Go.Proofs.YtjhiihmibleecaaGreatDoor.Dk
open Go.RowKit Go.Shelf

/-- The rows' list. -/
abbrev laidList : List (String × DataW Unit) := Rows.diskPlaysRow.laid

/-- A variable's cells laid. -/
def putVar (g : Nat) (cs : Array Value) (h : Array Obj) : Array Obj := h.modify g fun
  | .cells _ t frozen => .cells cs t frozen
  | o => o

/-- A world that meets the list: the settled one, the variables' cells laid. -/
noncomputable def laidWorld (os : Os) : World :=
  let w0 := World.holding Tryz.prog os ⟨#[], #[], []⟩
  let h1 := putVar 0 (Lib.firstTab.map fun z => Value.int .u8 z).toArray w0.heap
  let h2 := putVar 1 ((List.range 16).flatMap fun i => [Value.int .u8 (Lib.accLo i), Value.int .u8 (Lib.accHi i)]).toArray h1
  { w0 with heap := h2 }

theorem laidWorld_met (os : Os) (args : Array Value) : laidMetH Tryz.prog laidList ((laidWorld os).forCall (fun _ _ => 0) ⟨#[], args, []⟩).memory :=
  laidMetH_of_parts (laidMet_of_run' 8 (by kernel_rfl) (by kernel_rfl)) (by kernel_rfl)
end Go.Proofs.YtjhiihmibleecaaGreatDoor.Dk
end

section
namespace Go.Proofs.YtjhiihmibleecaaGreatDoor
open Go.RowKit

theorem diskPlaysW.walk (A : Option Addr) (n c : Nat) (l : List Dk.In) (room : Int) (As : Option Addr) (ns cs_ : Nat) (ls : List Dk.Dx) (W : World) (_hL : laidMetH Tryz.prog Dk.laidList W)
    (hF : Sq Dk.FeEl 3 W A n c l) (hz : ∀ f ∈ l, f.nm.length ≤ 140737488351232 ∧ f.data.length ≤ 140737488351232) (hr : (Lit.int .i64 room).wf = true) (hS : Sq Dk.DoEl 7 W As ns cs_ ls) (_t : True) :
    Calls Tryz.prog 3 #[.slice A n c, .int .i64 room, .slice As ns cs_] W fun e w' => e = .returned (.bool true) ∧ Below W.heap.size W w' :=
  Dk.plays_law A n c l room As ns cs_ ls W hF (fun f hf => (hz f hf).2) (by
    have h1 : IntKind.i64.min ≤ room ∧ room ≤ IntKind.i64.max := by simpa [Lit.wf] using hr
    exact h1.2) hS
end Go.Proofs.YtjhiihmibleecaaGreatDoor
end
