/- What the rows' list gives, and a world that meets it. -/
import Derived.Test.YthiikldjngamaaaDoorQxLaws
import Derived.Test.YthiikldjngamaaaDoorRows
import Derived.Lib.LaidU8T
import Derived.LaidLaws
import Derived.LaidHandle
import Derived.LaidSub
import Derived.Lib.LaidTab
import Derived.Lib.LaidIn
namespace Go.Proofs.YthiikldjngamaaaDoor.Qx
open Go.RowKit Go.Shelf UtfW Er

/-- The rows' list. -/
abbrev laidList : List (String × DataW Unit) := Rows.qlexAgainRow.laid

theorem et0 : Tryd.prog.globalNamed "errors.errorType" = some 0 := by kernel_rfl
theorem rt0 : (Tryd.prog.cutTypes.find? (·.1 == "internal/reflectlite.rtype")).map (·.2) = some 78 := by kernel_rfl
theorem size0 : Tryd.prog.types.size = 148 := by kernel_rfl
theorem oneRow0 : ((List.range 148).filter fun t => Tryd.prog.rowNamed t [101, 114, 114, 111, 114]) = [25] := by kernel_rfl

theorem et_of_laid {W : World} (h : laidMetH Tryd.prog laidList W) : Et W := by
  have h1 : laidMetH Tryd.prog [("errors.errorType", Rows.laid_errors_errorType)] W := h.filter (fun x => x.1 == "errors.errorType")
  have h' : laidMet Tryd.prog [] W ∧ handlesMet Tryd.prog [("errors.errorType", Rows.laid_errors_errorType)] W := h1
  obtain ⟨name, u, ty, e1, e2, e3, e4, e5⟩ := h'.2 _ (List.mem_singleton.2 rfl)
  have en : name = [101, 114, 114, 111, 114] := (Option.some.inj e1).symm
  subst en
  obtain rfl := Option.some.inj (rt0.symm.trans e2)
  have hm : ty ∈ (List.range 148).filter fun t => Tryd.prog.rowNamed t [101, 114, 114, 111, 114] := List.mem_filter.2 ⟨List.mem_range.2 (by rw [← size0]; exact e3), e4⟩
  rw [oneRow0] at hm
  obtain rfl := List.mem_singleton.1 hm
  have hh : typeHandle Tryd.prog 25 = .pointer (some ⟨4, 25, none⟩) := by kernel_rfl
  rw [hh] at e5
  have := World.var?_cell et0 e5 0
  unfold Et
  simpa using this

theorem en_of_laid {W : World} (h : laidMetH Tryd.prog laidList W) : En W.heap.size W :=
  ⟨et_of_laid h, by
    have hg := et_of_laid h
    unfold Et at hg
    rcases Nat.lt_or_ge 0 W.heap.size with h | h
    · exact h
    · simp [World.cell?, Array.getElem?_eq_none h] at hg, Nat.le_refl _⟩

/-- The names of the four types, and of the two tables. -/
def u8r : Ren := { f := id, t := fun n => if n = 5 then 5 else if n = 119 then 98 else if n = 138 then 101 else 102, g := fun n => if n = 3 then 1 else 2 }

theorem first_data : Rows.laid_unicode_utf8_first = Lib.firstData := by kernel_rfl
theorem accept_data : Rows.laid_unicode_utf8_acceptRanges = Lib.acceptData := by kernel_rfl

theorem ut_of_laid {W : World} (h : laidMetH Tryd.prog laidList W) : Ut W := by
  have h1 : laidMetH Tryd.prog [("unicode/utf8.first", Rows.laid_unicode_utf8_first)] W := h.filter (fun x => x.1 == "unicode/utf8.first")
  have h2 : laidMetH Tryd.prog [("unicode/utf8.acceptRanges", Rows.laid_unicode_utf8_acceptRanges)] W := h.filter (fun x => x.1 == "unicode/utf8.acceptRanges")
  rw [first_data] at h1
  rw [accept_data] at h2
  have h1' : laidMet Tryd.prog [("unicode/utf8.first", Lib.firstData)] W := h1
  have h2' : laidMet Tryd.prog [("unicode/utf8.acceptRanges", Lib.acceptData)] W := h2
  have L : U8Types Tryd.prog u8r := ⟨by kernel_rfl, by kernel_rfl, by kernel_rfl, by kernel_rfl⟩
  exact ⟨utf8Tabs_of_readsT L ⟨by kernel_rfl, by kernel_rfl, by kernel_rfl, by kernel_rfl, by kernel_rfl, by kernel_rfl, by kernel_rfl⟩ (Lib.laidMet.reads h1' (.head _)) (Lib.laidMet.reads h2' (.head _))⟩

/-- A variable's cells laid. -/
def putVar (g : Nat) (cs : Array Value) (h : Array Obj) : Array Obj := h.modify g fun
  | .cells _ t frozen => .cells cs t frozen
  | o => o

/-- A world that meets the list: the settled one, the variables' cells laid. -/
noncomputable def laidWorld (os : Os) : World :=
  let w0 := World.holding Tryd.prog os ⟨#[], #[], []⟩
  let h1 := putVar 1 (Lib.firstTab.map fun z => Value.int .u8 z).toArray w0.heap
  let h2 := putVar 2 ((List.range 16).flatMap fun i => [Value.int .u8 (Lib.accLo i), Value.int .u8 (Lib.accHi i)]).toArray h1
  let h3 := putVar 0 #[.iface 78 (.agg #[.pointer (some ⟨4, 25, none⟩)])] h2
  { w0 with heap := h3 }

theorem laidWorld_met (os : Os) (args : Array Value) : laidMetH Tryd.prog laidList ((laidWorld os).forCall (fun _ _ => 0) ⟨#[], args, []⟩).memory :=
  laidMetH_of_parts (laidMet_of_run' 8 (by kernel_rfl) (by kernel_rfl)) (by kernel_rfl)
end Go.Proofs.YthiikldjngamaaaDoor.Qx
