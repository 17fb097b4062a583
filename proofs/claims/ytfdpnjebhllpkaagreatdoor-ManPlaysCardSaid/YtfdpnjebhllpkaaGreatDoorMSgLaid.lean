/- What the rows' lists give, and a world that meets each (printed by wip/gen/sg_laid.py). -/
import Derived.Test.YtfdpnjebhllpkaaGreatDoorMMnLive
import Derived.Test.YtfdpnjebhllpkaaGreatDoorRows
import Derived.Lib.LaidU8T
import Derived.LaidLaws
import Derived.LaidHandle
import Derived.LaidSub
import Derived.Lib.LaidTab
import Derived.Lib.LaidIn
namespace Go.Proofs.YtfdpnjebhllpkaaGreatDoor.Sl
open Go.RowKit Ma Er

theorem et0 : Tryz.prog.globalNamed "errors.errorType" = some 0 := by kernel_rfl
theorem rt0 : (Tryz.prog.cutTypes.find? (·.1 == "internal/reflectlite.rtype")).map (·.2) = some 214 := by kernel_rfl
theorem size0 : Tryz.prog.types.size = 318 := by kernel_rfl
theorem oneRow0 : ((List.range 318).filter fun t => Tryz.prog.rowNamed t [101, 114, 114, 111, 114]) = [43] := by kernel_rfl
theorem et_of {W : World} (h1 : laidMetH Tryz.prog [("errors.errorType", Rows.laid_errors_errorType)] W) : Et W := by
  have h' : laidMet Tryz.prog [] W ∧ handlesMet Tryz.prog [("errors.errorType", Rows.laid_errors_errorType)] W := h1
  obtain ⟨name, u, ty, e1, e2, e3, e4, e5⟩ := h'.2 _ (List.mem_singleton.2 rfl)
  have en : name = [101, 114, 114, 111, 114] := (Option.some.inj e1).symm
  subst en
  obtain rfl := Option.some.inj (rt0.symm.trans e2)
  have hm : ty ∈ (List.range 318).filter fun t => Tryz.prog.rowNamed t [101, 114, 114, 111, 114] := List.mem_filter.2 ⟨List.mem_range.2 (by rw [← size0]; exact e3), e4⟩
  rw [oneRow0] at hm
  obtain rfl := List.mem_singleton.1 hm
  have hh : typeHandle Tryz.prog 43 = .pointer (some ⟨9, 43, none⟩) := by kernel_rfl
  rw [hh] at e5
  have := World.var?_cell et0 e5 0
  unfold Et
  simpa using this
theorem tab_of {W : World} (h1 : laidMetH Tryz.prog [("internal/strconv.uint64pow10", Rows.laid_internal_strconv_uint64pow10)] W) : Lib.TabIs Tryz.prog W "internal/strconv.uint64pow10" .u64 Lib.pow10Tab := by
  have h' : laidMet Tryz.prog [("internal/strconv.uint64pow10", Lib.tabData .u64 Lib.pow10Tab)] W := h1
  exact Lib.tabIs_of_head (rest := []) (g := 4) (by kernel_rfl) (t := 263) (by kernel_rfl) Tryz.underlying263 Tryz.underlying107 (by kernel_rfl) (by kernel_rfl) h'
theorem te_of {W : World} (h1 : laidMetH Tryz.prog [("internal/strconv.uint64pow10", Rows.laid_internal_strconv_uint64pow10)] W) : Sg.Te W.heap.size W := ⟨Nat.le_refl _, Lib.tabBelow_of_tabIs (tab_of h1)⟩
theorem en_of {W : World} (h : laidMetH Tryz.prog [("errors.errorType", Rows.laid_errors_errorType)] W) (h1 : laidMetH Tryz.prog [("internal/strconv.uint64pow10", Rows.laid_internal_strconv_uint64pow10)] W) : En W.heap.size W :=
  ⟨et_of h, by
    have hg := et_of h
    unfold Et at hg
    rcases Nat.lt_or_ge 0 W.heap.size with h | h
    · exact h
    · simp [World.cell?, Array.getElem?_eq_none h] at hg, Nat.le_refl _, Lib.tabBelow_of_tabIs (tab_of h1)⟩
theorem iface_of_laid {P : Program} {n nm : String} {d : DataW Unit} {r : List (String × DataW Unit)} {W : World} {g : Nat} {ti : TypeId} {ms : Array (String × TypeId)}
    (h : laidMet P ((n, .iface nm d) :: r) W)
    (hg : P.globalNamed n = some g) (ht : (P.globals[g]?).map (·.type) = some ti) (hi : P.underlying ti = some (.interface ms)) :
    ∃ tp p, W.cell? ⟨g, 0, none⟩ = some (.iface tp p) := by
  obtain ⟨ps, ⟨g0, t0, cs0, f0, p0, q0, hg0, ht0, hv0, hd0, _, e0⟩, _, hrows⟩ := h
  obtain rfl := Option.some.inj (hg.symm.trans hg0)
  obtain rfl := Option.some.inj (ht.symm.trans ht0)
  obtain ⟨l0⟩ := cs0
  obtain ⟨_, u, v, rfl, _, _⟩ := iface_of_trod hi hd0
  exact ⟨u, v, by simpa using World.var?_cell hg hv0 0⟩
theorem eb_of {W : World} (h1 : laidMetH Tryz.prog [("strconv.ErrSyntax", Rows.laid_strconv_ErrSyntax)] W) (h2 : laidMetH Tryz.prog [("strconv.ErrRange", Rows.laid_strconv_ErrRange)] W) : Sg.Eb W.heap.size W := by
  have h1' : laidMet Tryz.prog [("strconv.ErrSyntax", Rows.laid_strconv_ErrSyntax)] W := h1
  have h2' : laidMet Tryz.prog [("strconv.ErrRange", Rows.laid_strconv_ErrRange)] W := h2
  have k1 := iface_of_laid h1' (g := 1) (by kernel_rfl) (ti := 43) (by kernel_rfl) Tryz.underlying43
  have k2 := iface_of_laid h2' (g := 2) (by kernel_rfl) (ti := 43) (by kernel_rfl) Tryz.underlying43
  exact ⟨⟨k1, k2⟩, by obtain ⟨_, _, h⟩ := k1; exact lt_cell h, by obtain ⟨_, _, h⟩ := k2; exact lt_cell h⟩

/-- The cells of a table of numbers. -/
def tabCells (k : IntKind) (zs : List Int) : Array Value := (zs.map (Value.int k)).toArray
/-- A variable's cells laid. -/
def putVar (g : Nat) (cs : Array Value) (h : Array Obj) : Array Obj := h.modify g fun
  | .cells _ t frozen => .cells cs t frozen
  | o => o
abbrev syntaxS : ByteArray := { data := #[105, 110, 118, 97, 108, 105, 100, 32, 115, 121, 110, 116, 97, 120] }
abbrev rangeS : ByteArray := { data := #[118, 97, 108, 117, 101, 32, 111, 117, 116, 32, 111, 102, 32, 114, 97, 110, 103, 101] }
noncomputable def low : Nat := (World.holding Tryz.prog default ⟨#[], #[], []⟩).heap.size

/-- A world that meets each list: the settled one, the variables' cells laid. -/
noncomputable def laidWorld (os : Os) : World :=
  let w0 := World.holding Tryz.prog os ⟨#[.cells #[.string syntaxS] 260, .cells #[.string rangeS] 260], #[], []⟩
  let h1 := putVar 0 #[.iface 214 (.agg #[.pointer (some ⟨9, 43, none⟩)])] w0.heap
  let h2 := putVar 4 (tabCells .u64 Lib.pow10Tab) h1
  let h3 := putVar 7 (tabCells .u8 [0, 1, 28, 2, 29, 14, 24, 3, 30, 22, 20, 15, 25, 17, 4, 8, 31, 27, 13, 23, 21, 19, 16, 7, 26, 12, 18, 6, 11, 5, 10, 9]) h2
  let h4 := putVar 8 (tabCells .u8 [0, 1, 56, 2, 57, 49, 28, 3, 61, 58, 42, 50, 38, 29, 17, 4, 62, 47, 59, 36, 45, 43, 51, 22, 53, 39, 33, 30, 24, 18, 12, 5, 63, 55, 48, 27, 60, 41, 37, 16, 46, 35, 44, 21, 52, 32, 23, 11, 54, 26, 40, 15, 34, 20, 31, 10, 25, 14, 19, 9, 13, 8, 7, 6]) h3
  let h5 := putVar 1 #[.iface 258 (.pointer (some ⟨low, 0, none⟩))] h4
  let h6 := putVar 2 #[.iface 258 (.pointer (some ⟨low + 1, 0, none⟩))] h5
  let h7 := putVar 5 (Lib.firstTab.map fun z => Value.int .u8 z).toArray h6
  let h8 := putVar 6 ((List.range 16).flatMap fun i => [Value.int .u8 (Lib.accLo i), Value.int .u8 (Lib.accHi i)]).toArray h7
  { w0 with heap := h8 }
end Go.Proofs.YtfdpnjebhllpkaaGreatDoor.Sl
namespace Go.Proofs.YtfdpnjebhllpkaaGreatDoor.Sla
open Go.RowKit Ma Er
abbrev laidList : List (String × DataW Unit) := Rows.segScansRow.laid
noncomputable abbrev laidWorld (os : Os) : World := Sl.laidWorld os
theorem laidWorld_met (os : Os) (args : Array Value) : laidMetH Tryz.prog laidList ((laidWorld os).forCall (fun _ _ => 0) ⟨#[], args, []⟩).memory :=
  laidMetH_of_parts (laidMet_of_run' 8 (by kernel_rfl) (by kernel_rfl)) (by kernel_rfl)
theorem te_of_laid {W : World} (h : laidMetH Tryz.prog laidList W) : Sg.Te W.heap.size W := Sl.te_of (h.filter (fun x => x.1 == "internal/strconv.uint64pow10"))
end Go.Proofs.YtfdpnjebhllpkaaGreatDoor.Sla
namespace Go.Proofs.YtfdpnjebhllpkaaGreatDoor.Slb
open Go.RowKit Ma Er
abbrev laidList : List (String × DataW Unit) := Rows.segNamesRow.laid
noncomputable abbrev laidWorld (os : Os) : World := Sl.laidWorld os
theorem laidWorld_met (os : Os) (args : Array Value) : laidMetH Tryz.prog laidList ((laidWorld os).forCall (fun _ _ => 0) ⟨#[], args, []⟩).memory :=
  laidMetH_of_parts (laidMet_of_run' 8 (by kernel_rfl) (by kernel_rfl)) (by kernel_rfl)
theorem te_of_laid {W : World} (h : laidMetH Tryz.prog laidList W) : Sg.Te W.heap.size W := Sl.te_of (h.filter (fun x => x.1 == "internal/strconv.uint64pow10"))
theorem eb_of_laid {W : World} (h : laidMetH Tryz.prog laidList W) : Sg.Eb W.heap.size W := Sl.eb_of (h.filter (fun x => x.1 == "strconv.ErrSyntax")) (h.filter (fun x => x.1 == "strconv.ErrRange"))
end Go.Proofs.YtfdpnjebhllpkaaGreatDoor.Slb
namespace Go.Proofs.YtfdpnjebhllpkaaGreatDoor.Slc
open Go.RowKit Ma Er
abbrev laidList : List (String × DataW Unit) := Rows.segLastsRow.laid
noncomputable abbrev laidWorld (os : Os) : World := Sl.laidWorld os
theorem laidWorld_met (os : Os) (args : Array Value) : laidMetH Tryz.prog laidList ((laidWorld os).forCall (fun _ _ => 0) ⟨#[], args, []⟩).memory :=
  laidMetH_of_parts (laidMet_of_run' 8 (by kernel_rfl) (by kernel_rfl)) (by kernel_rfl)
theorem te_of_laid {W : World} (h : laidMetH Tryz.prog laidList W) : Sg.Te W.heap.size W := Sl.te_of (h.filter (fun x => x.1 == "internal/strconv.uint64pow10"))
theorem en_of_laid {W : World} (h : laidMetH Tryz.prog laidList W) : En W.heap.size W := Sl.en_of (h.filter (fun x => x.1 == "errors.errorType")) (h.filter (fun x => x.1 == "internal/strconv.uint64pow10"))
end Go.Proofs.YtfdpnjebhllpkaaGreatDoor.Slc
namespace Go.Proofs.YtfdpnjebhllpkaaGreatDoor.Slm
open Go.RowKit Ma Er
abbrev laidList : List (String × DataW Unit) := Rows.manPlaysRow.laid
noncomputable abbrev laidWorld (os : Os) : World := Sl.laidWorld os
theorem laidWorld_met (os : Os) (args : Array Value) : laidMetH Tryz.prog laidList ((laidWorld os).forCall (fun _ _ => 0) ⟨#[], args, []⟩).memory :=
  laidMetH_of_parts (laidMet_of_run' 8 (by kernel_rfl) (by kernel_rfl)) (by kernel_rfl)
theorem te_of_laid {W : World} (h : laidMetH Tryz.prog laidList W) : Sg.Te W.heap.size W := Sl.te_of (h.filter (fun x => x.1 == "internal/strconv.uint64pow10"))
theorem eb_of_laid {W : World} (h : laidMetH Tryz.prog laidList W) : Sg.Eb W.heap.size W := Sl.eb_of (h.filter (fun x => x.1 == "strconv.ErrSyntax")) (h.filter (fun x => x.1 == "strconv.ErrRange"))
theorem en_of_laid {W : World} (h : laidMetH Tryz.prog laidList W) : En W.heap.size W := Sl.en_of (h.filter (fun x => x.1 == "errors.errorType")) (h.filter (fun x => x.1 == "internal/strconv.uint64pow10"))
end Go.Proofs.YtfdpnjebhllpkaaGreatDoor.Slm
