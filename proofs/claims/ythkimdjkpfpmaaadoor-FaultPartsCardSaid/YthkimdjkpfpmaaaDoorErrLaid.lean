/- What the rows' list gives, and a world that meets it. -/
import Derived.Test.YthkimdjkpfpmaaaDoorErrWalk
import Derived.Test.YthkimdjkpfpmaaaDoorRows
import Derived.LaidLaws
import Derived.LaidHandle
import Derived.LaidSub
import Derived.Lib.LaidTab
namespace Go.Proofs.YthkimdjkpfpmaaaDoor.Er
open Go.RowKit

/-- The rows' list. -/
abbrev laidList : List (String × DataW Unit) := Rows.faultCodesRow.laid

theorem et0 : Tryd.prog.globalNamed "errors.errorType" = some 0 := by kernel_rfl
theorem rt0 : (Tryd.prog.cutTypes.find? (·.1 == "internal/reflectlite.rtype")).map (·.2) = some 67 := by kernel_rfl
theorem size0 : Tryd.prog.types.size = 129 := by kernel_rfl
theorem oneRow0 : ((List.range 129).filter fun t => Tryd.prog.rowNamed t [101, 114, 114, 111, 114]) = [26] := by kernel_rfl

theorem et_of_laid {W : World} (h : laidMetH Tryd.prog laidList W) : Et W := by
  have h1 : laidMetH Tryd.prog [("errors.errorType", Rows.laid_errors_errorType)] W := h.filter (fun x => x.1 == "errors.errorType")
  have h' : laidMet Tryd.prog [] W ∧ handlesMet Tryd.prog [("errors.errorType", Rows.laid_errors_errorType)] W := h1
  obtain ⟨name, u, ty, e1, e2, e3, e4, e5⟩ := h'.2 _ (List.mem_singleton.2 rfl)
  have en : name = [101, 114, 114, 111, 114] := (Option.some.inj e1).symm
  subst en
  obtain rfl := Option.some.inj (rt0.symm.trans e2)
  have hm : ty ∈ (List.range 129).filter fun t => Tryd.prog.rowNamed t [101, 114, 114, 111, 114] := List.mem_filter.2 ⟨List.mem_range.2 (by rw [← size0]; exact e3), e4⟩
  rw [oneRow0] at hm
  obtain rfl := List.mem_singleton.1 hm
  have hh : typeHandle Tryd.prog 26 = .pointer (some ⟨4, 26, none⟩) := by kernel_rfl
  rw [hh] at e5
  have := World.var?_cell et0 e5 0
  unfold Et
  simpa using this

theorem tab_of_laid {W : World} (h : laidMetH Tryd.prog laidList W) : Lib.TabIs Tryd.prog W "internal/strconv.uint64pow10" .u64 Lib.pow10Tab := by
  have h1 : laidMetH Tryd.prog [("internal/strconv.uint64pow10", Rows.laid_internal_strconv_uint64pow10)] W := h.filter (fun x => x.1 == "internal/strconv.uint64pow10")
  have h' : laidMet Tryd.prog [("internal/strconv.uint64pow10", Lib.tabData .u64 Lib.pow10Tab)] W := h1
  exact Lib.tabIs_of_head (rest := []) (g := 1) (by kernel_rfl) (t := 91) (by kernel_rfl) Tryd.underlying91 Tryd.underlying84 (by kernel_rfl) (by kernel_rfl) h'

theorem en_of_laid {W : World} (h : laidMetH Tryd.prog laidList W) : En W.heap.size W :=
  ⟨et_of_laid h, by
    have hg := et_of_laid h
    unfold Et at hg
    rcases Nat.lt_or_ge 0 W.heap.size with h | h
    · exact h
    · simp [World.cell?, Array.getElem?_eq_none h] at hg, Nat.le_refl _, Lib.tabBelow_of_tabIs (tab_of_laid h)⟩

/-- The cells of a table of numbers. -/
def tabCells (k : IntKind) (zs : List Int) : Array Value := (zs.map (Value.int k)).toArray

/-- A variable's cells laid. -/
def putVar (g : Nat) (cs : Array Value) (h : Array Obj) : Array Obj := h.modify g fun
  | .cells _ t frozen => .cells cs t frozen
  | o => o

/-- A world that meets the list: the settled one, the variables' cells laid. -/
noncomputable def laidWorld (os : Os) : World :=
  let w0 := World.holding Tryd.prog os ⟨#[], #[], []⟩
  let h1 := putVar 0 #[.iface 67 (.agg #[.pointer (some ⟨4, 26, none⟩)])] w0.heap
  let h2 := putVar 1 (tabCells .u64 Lib.pow10Tab) h1
  let h3 := putVar 2 (tabCells .u8 [0, 1, 28, 2, 29, 14, 24, 3, 30, 22, 20, 15, 25, 17, 4, 8, 31, 27, 13, 23, 21, 19, 16, 7, 26, 12, 18, 6, 11, 5, 10, 9]) h2
  let h4 := putVar 3 (tabCells .u8 [0, 1, 56, 2, 57, 49, 28, 3, 61, 58, 42, 50, 38, 29, 17, 4, 62, 47, 59, 36, 45, 43, 51, 22, 53, 39, 33, 30, 24, 18, 12, 5, 63, 55, 48, 27, 60, 41, 37, 16, 46, 35, 44, 21, 52, 32, 23, 11, 54, 26, 40, 15, 34, 20, 31, 10, 25, 14, 19, 9, 13, 8, 7, 6]) h3
  { w0 with heap := h4 }

theorem laidWorld_met (os : Os) (args : Array Value) : laidMetH Tryd.prog laidList ((laidWorld os).forCall (fun _ _ => 0) ⟨#[], args, []⟩).memory :=
  laidMetH_of_parts (laidMet_of_run' 8 (by kernel_rfl) (by kernel_rfl)) (by kernel_rfl)
end Go.Proofs.YthkimdjkpfpmaaaDoor.Er
