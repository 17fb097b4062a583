/- The walks of the laws over keys. -/
import Derived.Test.YtjofkodncplhaaaGreatDoorMKyParse
import Derived.Test.YtjofkodncplhaaaGreatDoorRows
import Derived.Lib.LaidU8T
import Derived.LaidLaws
import Derived.LaidHandle
import Derived.LaidSub
import Derived.Lib.LaidTab
import Derived.Lib.LaidIn
import Derived.Shelf.Strings.SplitShaped
import Derived.Test.YtjofkodncplhaaaGreatDoorMKyLawP
import Derived.Test.YtjofkodncplhaaaGreatDoorMKyOpen
section
namespace Go.Proofs
open Go.Shelf Go.RowKit

shelf_lay LaysM.n155 Nm 155 at Tryz as Tryz.laysM155

end Go.Proofs
namespace Go.Proofs.YtjofkodncplhaaaGreatDoor.Ky
open Go.RowKit Go.Shelf UtfW Er

/-- The rows' list. -/
abbrev laidList : List (String × DataW Unit) := Rows.keysParsesRow.laid

theorem et0 : Tryz.prog.globalNamed "errors.errorType" = some 0 := by kernel_rfl
theorem rt0 : (Tryz.prog.cutTypes.find? (·.1 == "internal/reflectlite.rtype")).map (·.2) = some 110 := by kernel_rfl
theorem size0 : Tryz.prog.types.size = 183 := by kernel_rfl
theorem oneRow0 : ((List.range 183).filter fun t => Tryz.prog.rowNamed t [101, 114, 114, 111, 114]) = [33] := by kernel_rfl

theorem et_of_laid {W : World} (h : laidMetH Tryz.prog laidList W) : Et W := by
  have h1 : laidMetH Tryz.prog [("errors.errorType", Rows.laid_errors_errorType)] W := h.filter (fun x => x.1 == "errors.errorType")
  have h' : laidMet Tryz.prog [] W ∧ handlesMet Tryz.prog [("errors.errorType", Rows.laid_errors_errorType)] W := h1
  obtain ⟨name, u, ty, e1, e2, e3, e4, e5⟩ := h'.2 _ (List.mem_singleton.2 rfl)
  have en : name = [101, 114, 114, 111, 114] := (Option.some.inj e1).symm
  subst en
  obtain rfl := Option.some.inj (rt0.symm.trans e2)
  have hm : ty ∈ (List.range 183).filter fun t => Tryz.prog.rowNamed t [101, 114, 114, 111, 114] := List.mem_filter.2 ⟨List.mem_range.2 (by rw [← size0]; exact e3), e4⟩
  rw [oneRow0] at hm
  obtain rfl := List.mem_singleton.1 hm
  have hh : typeHandle Tryz.prog 33 = .pointer (some ⟨4, 33, none⟩) := by kernel_rfl
  rw [hh] at e5
  have := World.var?_cell et0 e5 0
  unfold Et
  simpa using this

theorem en_of_laid {W : World} (h : laidMetH Tryz.prog laidList W) : En W.heap.size W :=
  ⟨et_of_laid h, by
    have hg := et_of_laid h
    unfold Et at hg
    rcases Nat.lt_or_ge 0 W.heap.size with h | h
    · exact h
    · simp [World.cell?, Array.getElem?_eq_none h] at hg, Nat.le_refl _⟩

/-- The names of the four types, and of the two tables. -/
def u8r : Ren := { f := id, t := fun n => if n = 5 then 5 else if n = 119 then 137 else if n = 138 then 139 else 140, g := fun n => if n = 3 then 1 else 2 }

theorem first_data : Rows.laid_unicode_utf8_first = Lib.firstData := by kernel_rfl
theorem accept_data : Rows.laid_unicode_utf8_acceptRanges = Lib.acceptData := by kernel_rfl

theorem ut_of_laid {W : World} (h : laidMetH Tryz.prog laidList W) (hsh : W.ShapedOpen Tryz.prog) : Ut W := by
  have h1 : laidMetH Tryz.prog [("unicode/utf8.first", Rows.laid_unicode_utf8_first)] W := h.filter (fun x => x.1 == "unicode/utf8.first")
  have h2 : laidMetH Tryz.prog [("unicode/utf8.acceptRanges", Rows.laid_unicode_utf8_acceptRanges)] W := h.filter (fun x => x.1 == "unicode/utf8.acceptRanges")
  rw [first_data] at h1
  rw [accept_data] at h2
  have h1' : laidMet Tryz.prog [("unicode/utf8.first", Lib.firstData)] W := h1
  have h2' : laidMet Tryz.prog [("unicode/utf8.acceptRanges", Lib.acceptData)] W := h2
  have L : U8Types Tryz.prog u8r := ⟨by kernel_rfl, by kernel_rfl, by kernel_rfl, by kernel_rfl⟩
  exact ⟨utf8Tabs_of_readsT L ⟨by kernel_rfl, by kernel_rfl, by kernel_rfl, by kernel_rfl, by kernel_rfl, by kernel_rfl, by kernel_rfl⟩ (Lib.laidMet.reads h1' (.head _)) (Lib.laidMet.reads h2' (.head _)), Tryz.laysM155.s1_3 W hsh⟩

/-- A variable's cells laid. -/
def putVar (g : Nat) (cs : Array Value) (h : Array Obj) : Array Obj := h.modify g fun
  | .cells _ t frozen => .cells cs t frozen
  | o => o

/-- A world that meets the list: the settled one, the variables' cells laid. -/
noncomputable def laidWorld (os : Os) : World :=
  let w0 := World.holding Tryz.prog os ⟨#[], #[], []⟩
  let h1 := putVar 1 (Lib.firstTab.map fun z => Value.int .u8 z).toArray w0.heap
  let h2 := putVar 2 ((List.range 16).flatMap fun i => [Value.int .u8 (Lib.accLo i), Value.int .u8 (Lib.accHi i)]).toArray h1
  let h3 := putVar 0 #[.iface 110 (.agg #[.pointer (some ⟨4, 33, none⟩)])] h2
  { w0 with heap := h3 }

theorem laidWorld_met (os : Os) (args : Array Value) : laidMetH Tryz.prog laidList ((laidWorld os).forCall (fun _ _ => 0) ⟨#[], args, []⟩).memory :=
  laidMetH_of_parts (laidMet_of_run' 8 (by kernel_rfl) (by kernel_rfl)) (by kernel_rfl)
end Go.Proofs.YtjofkodncplhaaaGreatDoor.Ky
end

section
namespace Go.Proofs.YtjofkodncplhaaaGreatDoor
open Go.RowKit UtfW Er Ky

namespace keysParsesW
theorem walk (s : ByteArray) (W : World) (hL : laidMetH Tryz.prog Ky.laidList W) (hsh : W.ShapedOpen Tryz.prog) (_ : s.size ≤ 9223372036854775807) (z : s.size ≤ 140737488351232) :
    Calls Tryz.prog 5 #[.string s] W fun e w' => e = .returned (.bool true) ∧ Below W.heap.size W w' :=
  parses_any s W (ut_of_laid hL hsh) (en_of_laid hL) z
end keysParsesW
namespace keysBackW
theorem walk (A : Option Addr) (n c : Nat) (l : List Rl) (W : World) (hL : laidMetH Tryz.prog Ky.laidList W) (hsh : W.ShapedOpen Tryz.prog) (h : Rs W A n c l) (hB : Big l) :
    Calls Tryz.prog 7 #[.slice A n c] W fun e w' => e = .returned (.bool true) ∧ Below W.heap.size W w' :=
  back_any A n c l W h hB (ut_of_laid hL hsh) (en_of_laid hL)
end keysBackW
end Go.Proofs.YtjofkodncplhaaaGreatDoor
end
