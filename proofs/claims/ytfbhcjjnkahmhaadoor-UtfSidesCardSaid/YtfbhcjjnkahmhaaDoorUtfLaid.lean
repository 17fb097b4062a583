/- What the rows' list gives, and a world that meets it. -/
import Derived.Test.YtfbhcjjnkahmhaaDoorUtfName
import Derived.Test.YtfbhcjjnkahmhaaDoorRows
import Derived.Lib.LaidU8T
import Derived.LaidLaws
import Derived.LaidHandle
import Derived.LaidSub
import Derived.Lib.LaidTab
import Derived.Lib.LaidIn
import Derived.Shelf.Strings.SplitShaped
namespace Go.Proofs
open Go.Shelf Go.RowKit

shelf_lay LaysM.n155 Nm 155 at Tryd as Tryd.laysM155

end Go.Proofs
namespace Go.Proofs.YtfbhcjjnkahmhaaDoor.UtfW
open Go.RowKit Go.Shelf

/-- The rows' list. -/
abbrev laidList : List (String × DataW Unit) := Rows.utfNextRow.laid

theorem first_data : Rows.laid_unicode_utf8_first = Lib.firstData := by kernel_rfl
theorem accept_data : Rows.laid_unicode_utf8_acceptRanges = Lib.acceptData := by kernel_rfl

theorem ut_of_laid {W : World} (h : laidMetH Tryd.prog laidList W) (hsh : W.ShapedOpen Tryd.prog) : Ut W := by
  have h1 : laidMetH Tryd.prog [("unicode/utf8.first", Rows.laid_unicode_utf8_first)] W := h.filter (fun x => x.1 == "unicode/utf8.first")
  have h2 : laidMetH Tryd.prog [("unicode/utf8.acceptRanges", Rows.laid_unicode_utf8_acceptRanges)] W := h.filter (fun x => x.1 == "unicode/utf8.acceptRanges")
  rw [first_data] at h1
  rw [accept_data] at h2
  have h1' : laidMet Tryd.prog [("unicode/utf8.first", Lib.firstData)] W := h1
  have h2' : laidMet Tryd.prog [("unicode/utf8.acceptRanges", Lib.acceptData)] W := h2
  exact ⟨utf8Tabs_of_readsT (U8Types.of196 Tryd.lays196) ⟨by kernel_rfl, by kernel_rfl, by kernel_rfl, by kernel_rfl, by kernel_rfl, by kernel_rfl, by kernel_rfl⟩ (Lib.laidMet.reads h1' (.head _)) (Lib.laidMet.reads h2' (.head _)), Tryd.laysM155.s1_3 W hsh⟩

/-- A variable's cells laid. -/
def putVar (g : Nat) (cs : Array Value) (h : Array Obj) : Array Obj := h.modify g fun
  | .cells _ t frozen => .cells cs t frozen
  | o => o

/-- A world that meets the list: the settled one, the variables' cells laid. -/
noncomputable def laidWorld (os : Os) : World :=
  let w0 := World.holding Tryd.prog os ⟨#[], #[], []⟩
  let h1 := putVar 0 (Lib.firstTab.map fun z => Value.int .u8 z).toArray w0.heap
  let h2 := putVar 1 ((List.range 16).flatMap fun i => [Value.int .u8 (Lib.accLo i), Value.int .u8 (Lib.accHi i)]).toArray h1
  { w0 with heap := h2 }

theorem laidWorld_met (os : Os) (args : Array Value) : laidMetH Tryd.prog laidList ((laidWorld os).forCall (fun _ _ => 0) ⟨#[], args, []⟩).memory :=
  laidMetH_of_parts (laidMet_of_run' 8 (by kernel_rfl) (by kernel_rfl)) (by kernel_rfl)
end Go.Proofs.YtfbhcjjnkahmhaaDoor.UtfW
