/- The walks of the laws over what is written: XoutBack. -/
import Derived.Test.YtokdnhdfmgfkeaaGreatDoorWXnTok
import Derived.Test.YtokdnhdfmgfkeaaGreatDoorRows
import Derived.Lib.LaidU8T
import Derived.LaidLaws
import Derived.LaidHandle
import Derived.LaidSub
import Derived.Lib.LaidTab
import Derived.Lib.LaidIn
import Derived.Lib.LaidCase
import Derived.Great.CaseRows
import Derived.Shelf.Strings.SplitShaped
import Derived.Test.YtokdnhdfmgfkeaaGreatDoorWXtOpenD
set_option linter.unusedVariables false
set_option linter.unusedSimpArgs false
section
namespace Go.Proofs
open Go.Shelf Go.RowKit
shelf_lay LaysM.n155 Nm 155 at Tryz as Tryz.laysM155
end Go.Proofs
namespace Go.Proofs.YtokdnhdfmgfkeaaGreatDoor.Xl
open Go.RowKit Go.Shelf UtfW Er
abbrev laidList : List (String × DataW Unit) := Rows.xtreeParsesRow.laid
theorem et0 : Tryz.prog.globalNamed "errors.errorType" = some 0 := by kernel_rfl
theorem rt0 : (Tryz.prog.cutTypes.find? (·.1 == "internal/reflectlite.rtype")).map (·.2) = some 162 := by kernel_rfl
theorem size0 : Tryz.prog.types.size = 259 := by kernel_rfl
theorem oneRow0 : ((List.range 259).filter fun t => Tryz.prog.rowNamed t [101, 114, 114, 111, 114]) = [31] := by kernel_rfl
theorem et_of_laid {W : World} (h : laidMetH Tryz.prog laidList W) : Et W := by
 have h1 : laidMetH Tryz.prog [("errors.errorType", Rows.laid_errors_errorType)] W := h.filter (fun x => x.1 == "errors.errorType");have h' : laidMet Tryz.prog [] W /\ handlesMet Tryz.prog [("errors.errorType", Rows.laid_errors_errorType)] W := h1;obtain ⟨name, u, ty, e1, e2, e3, e4, e5⟩ := h'.2 _ (List.mem_singleton.2 rfl);have en : name = [101, 114, 114, 111, 114] := (Option.some.inj e1).symm;subst en;obtain rfl := Option.some.inj (rt0.symm.trans e2);have hm : ty ∈ (List.range 259).filter fun t => Tryz.prog.rowNamed t [101, 114, 114, 111, 114] := List.mem_filter.2 ⟨List.mem_range.2 (by rw [<- size0]; exact e3), e4⟩
 rw [oneRow0] at hm;obtain rfl := List.mem_singleton.1 hm;have hh : typeHandle Tryz.prog 31 = .pointer (some ⟨7, 31, none⟩) := by kernel_rfl
 rw [hh] at e5;have := World.var?_cell et0 e5 0;unfold Et
 simpa using this
theorem en_of_laid {W : World} (h : laidMetH Tryz.prog laidList W) : En W.heap.size W :=
 ⟨et_of_laid h, by
  have hg := et_of_laid h;unfold Et at hg;rcases Nat.lt_or_ge 0 W.heap.size with h | h
  ·exact h
  ·simp [World.cell?, Array.getElem?_eq_none h] at hg, Nat.le_refl _⟩
def u8r : Ren := { f := id, t := fun n => if n = 5 then 5 else if n = 119 then 145 else if n = 138 then 147 else 148, g := fun n => if n = 3 then 1 else 2 }
theorem first_data : Rows.laid_unicode_utf8_first = Lib.firstData := by kernel_rfl
theorem accept_data : Rows.laid_unicode_utf8_acceptRanges = Lib.acceptData := by kernel_rfl
theorem case_data : Rows.laid_unicode_CaseRanges = Lib.caseData := by kernel_rfl
def litZ : DataW Unit -> List Int
 | .lit (.int _ z) => [z]
 | _ => []
def foldZ : List Int := match (Rows.laid_unicode_asciiFold : DataW Unit) with
 | .agg l => l.flatMap litZ
 | _ => []
theorem fold_data : (Rows.laid_unicode_asciiFold : DataW Unit) = Lib.tabData .u16 foldZ := by kernel_rfl
theorem tfold_len : foldZ.length = 128 := by kernel_rfl
theorem tfold_at : (foldT.all fun x => foldZ.getD x.1 0 == (x.2 : Int)) = true := by kernel_rfl
def rowZ : DataW Unit -> List Value
 | .agg l => l.flatMap fun x => (litZ x).map (Value.int .u16)
 | _ => []
def orbitC : Array Value := match (Rows.laid_unicode_caseOrbit : DataW Unit) with
 | .slice l _ => (l.flatMap rowZ).toArray
 | _ => #[]
theorem ut_of_laid {W : World} (h : laidMetH Tryz.prog laidList W) (hsh : W.ShapedOpen Tryz.prog) : Ut W := by
 have h1 : laidMetH Tryz.prog [("unicode/utf8.first", Rows.laid_unicode_utf8_first)] W := h.filter (fun x => x.1 == "unicode/utf8.first");have h2 : laidMetH Tryz.prog [("unicode/utf8.acceptRanges", Rows.laid_unicode_utf8_acceptRanges)] W := h.filter (fun x => x.1 == "unicode/utf8.acceptRanges");rw [first_data] at h1;rw [accept_data] at h2;have h1' : laidMet Tryz.prog [("unicode/utf8.first", Lib.firstData)] W := h1;have h2' : laidMet Tryz.prog [("unicode/utf8.acceptRanges", Lib.acceptData)] W := h2;have L : U8Types Tryz.prog u8r := ⟨by kernel_rfl, by kernel_rfl, by kernel_rfl, by kernel_rfl⟩;exact ⟨utf8Tabs_of_readsT L ⟨by kernel_rfl, by kernel_rfl, by kernel_rfl, by kernel_rfl, by kernel_rfl, by kernel_rfl, by kernel_rfl⟩ (Lib.laidMet.reads h1' (.head _)) (Lib.laidMet.reads h2' (.head _)), Tryz.laysM155.s1_3 W hsh⟩
theorem un_of_laid {W : World} (h : laidMetH Tryz.prog laidList W) (hsh : W.ShapedOpen Tryz.prog) : Un W := by
 refine ⟨ut_of_laid h hsh, fun x hx => ?_, ?_⟩
 ·have h1 : laidMetH Tryz.prog [("unicode.asciiFold", Rows.laid_unicode_asciiFold)] W := h.filter (fun x => x.1 == "unicode.asciiFold");rw [fold_data] at h1;have h2 : laidMet Tryz.prog (("unicode.asciiFold", Lib.tabData .u16 foldZ) :: []) W := h1;have ht : Lib.TabIs Tryz.prog W "unicode.asciiFold" .u16 foldZ := Lib.tabIs_of_head (g := 5) (t := 228) (e := 227) (n := 128) (by kernel_rfl) (by kernel_rfl) Tryz.underlying228 Tryz.underlying227 (by kernel_rfl) (by kernel_rfl) h2;have hlt := (foldT_low _ hx).1;have hc := ht.cell (g := 5) (by kernel_rfl) x.1 (by rw [tfold_len]; exact hlt);have hv := List.all_eq_true.1 tfold_at x hx;rw [beq_iff_eq] at hv;rw [hv] at hc;exact hc
 ·have h1 : laidMetH Tryz.prog [("unicode.CaseRanges", Rows.laid_unicode_CaseRanges)] W := h.filter (fun x => x.1 == "unicode.CaseRanges");rw [case_data] at h1;have h2 : laidMet Tryz.prog [("unicode.CaseRanges", Lib.caseData)] W := h1;exact caseVar_of_reads (ρ := Tryz.lays159_ren) { Tryz.lays159 with } Tryz.lays159.t206 ⟨by kernel_rfl, by kernel_rfl, by kernel_rfl, by kernel_rfl, by kernel_rfl, by kernel_rfl⟩ (Lib.laidMet.reads h2 (.head _))
def putVar (g : Nat) (cs : Array Value) (h : Array Obj) : Array Obj := h.modify g fun
 | .cells _ t frozen => .cells cs t frozen
 | o => o
noncomputable def laidWorld (os : Os) : World :=
 let N := (World.settled Tryz.prog os).heap.size
 let w0 := World.holding Tryz.prog os ⟨#[.cells orbitC 231, .cells Lib.caseCells5 217], #[], []⟩
 let h1 := putVar 1 (Lib.firstTab.map fun z => Value.int .u8 z).toArray w0.heap
 let h2 := putVar 2 ((List.range 16).flatMap fun i => [Value.int .u8 (Lib.accLo i), Value.int .u8 (Lib.accHi i)]).toArray h1
 let h3 := putVar 0 #[.iface 162 (.agg #[.pointer (some ⟨7, 31, none⟩)])] h2
 let h4 := putVar 5 (foldZ.map fun z => Value.int .u16 z).toArray h3
 let h5 := putVar 6 #[.slice (some ⟨N, 0, none⟩) 94 94] h4
 let h6 := putVar 4 #[.slice (some ⟨N + 1, 0, none⟩) 336 336] h5
 { w0 with heap := h6 }
theorem ctypes : Great.CTypes Tryz.prog 192 217 215 195 21 where
 tS := Tryz.underlying192
 tR := Tryz.underlying217
 tD := Tryz.underlying215
 tU := Tryz.underlying195
 tI := Tryz.underlying21
 cI := by kernel_rfl
 cU := by kernel_rfl
 cD := by kernel_rfl
 cR := by kernel_rfl
noncomputable abbrev laidN : Nat := (World.settled Tryz.prog default).heap.size
theorem laid_a (os : Os) (args : Array Value) : LaidIn Tryz.prog ((laidWorld os).forCall (fun _ _ => 0) ⟨#[], args, []⟩).memory [("unicode/utf8.acceptRanges", Rows.laid_unicode_utf8_acceptRanges), ("unicode.asciiFold", Rows.laid_unicode_asciiFold), ("unicode.caseOrbit", Rows.laid_unicode_caseOrbit)] [2, 5, 6, laidN] :=
 LaidIn.of_run _ 8 (by kernel_rfl) (by kernel_rfl) (by kernel_rfl) (by kernel_rfl)
theorem laid_c (os : Os) (args : Array Value) : LaidIn Tryz.prog ((laidWorld os).forCall (fun _ _ => 0) ⟨#[], args, []⟩).memory [("unicode.CaseRanges", Rows.laid_unicode_CaseRanges)] [4, laidN + 1] := by
 rw [case_data];exact Great.laidIn_case (tg := 192) (tb := 217) ctypes Lib.caseT (by kernel_rfl) (by kernel_rfl) (of_decide_eq_true (by kernel_rfl)) Lib.rowsWf (by kernel_rfl) (by kernel_rfl) (of_decide_eq_true (by kernel_rfl))
theorem laid_f (os : Os) (args : Array Value) : LaidIn Tryz.prog ((laidWorld os).forCall (fun _ _ => 0) ⟨#[], args, []⟩).memory [("unicode/utf8.first", Rows.laid_unicode_utf8_first)] [1] :=
 LaidIn.of_run _ 8 (by kernel_rfl) (by kernel_rfl) (by kernel_rfl) (by kernel_rfl)
theorem laidWorld_met (os : Os) (args : Array Value) : laidMetH Tryz.prog laidList ((laidWorld os).forCall (fun _ _ => 0) ⟨#[], args, []⟩).memory :=
 laidMetH_of_parts (((laid_a os args).append (laid_c os args) (by kernel_rfl)).append (laid_f os args) (by kernel_rfl)).met (by kernel_rfl)
end Go.Proofs.YtokdnhdfmgfkeaaGreatDoor.Xl
end

section
namespace Go.Proofs.YtokdnhdfmgfkeaaGreatDoor
open Go.RowKit UtfW Er Xl Xt
namespace xoutBackW
theorem walk (v : Value) (d : Doc) (W : World) (hL : laidMetH Tryz.prog Xl.laidList W) (hsh : W.ShapedOpen Tryz.prog) (hd : DocI (fun j => j < W.heap.size) W v d) (hz : wL d.before + wN d.root + wL d.after <= 576460752303423488) :
  Calls Tryz.prog 8 #[v] W fun e w' => e = .returned (.bool true) /\ Below W.heap.size W w' :=
 Xp.back_law _ W (un_of_laid hL hsh) (en_of_laid hL) v d hd (fun _ h => h) hz
end xoutBackW
end Go.Proofs.YtokdnhdfmgfkeaaGreatDoor
end
