/- What the rows' list gives, and a world that meets it. -/
import Derived.Test.YtppmnelgekhbnaaGreatDoorIvParse
import Derived.Test.YtppmnelgekhbnaaGreatDoorRows
import Derived.Lib.LaidU8T
import Derived.LaidLaws
import Derived.LaidHandle
import Derived.LaidSub
import Derived.Lib.LaidTab
import Derived.Lib.LaidIn
namespace Go.Proofs.YtppmnelgekhbnaaGreatDoor.IvW
open Go.RowKit Go.Shelf

/-- The rows' list. -/
abbrev laidList : List (String × DataW Unit) := Rows.ivsetOneRow.laid

theorem tens_of_laid {W : World} (h : laidMetH Tryz.prog laidList W) : Tens W := by
  have h1 : laidMetH Tryz.prog [("internal/strconv.uint64pow10", Rows.laid_internal_strconv_uint64pow10)] W := h.filter (fun x => x.1 == "internal/strconv.uint64pow10")
  have h' : laidMet Tryz.prog [("internal/strconv.uint64pow10", Lib.tabData .u64 Lib.pow10Tab)] W := h1
  exact Tens.of_tab (Lib.tabIs_of_head (rest := []) (g := 3) (by kernel_rfl) (t := 131) (by kernel_rfl) Tryz.underlying131 Tryz.underlying98 (by kernel_rfl) (by kernel_rfl) h')

theorem iface_of_laid {P : Program} {n nm : String} {d : DataW Unit} {r : List (String × DataW Unit)} {W : World} {g : Nat} {ti : TypeId} {ms : Array (String × TypeId)}
    (h : laidMet P ((n, .iface nm d) :: r) W)
    (hg : P.globalNamed n = some g) (ht : (P.globals[g]?).map (·.type) = some ti) (hi : P.underlying ti = some (.interface ms)) :
    ∃ tp p, W.cell? ⟨g, 0, none⟩ = some (.iface tp p) := by
  obtain ⟨ps, ⟨g0, t0, cs0, f0, p0, q0, hg0, ht0, hv0, hd0, _, e0⟩, _, hrows⟩ := h
  obtain rfl := Option.some.inj (hg.symm.trans hg0)
  obtain rfl := Option.some.inj (ht.symm.trans ht0)
  obtain ⟨l0⟩ := cs0
  obtain ⟨_, u, v, rfl, _, _⟩ := iface_of_trod hi hd0
  exact ⟨u, v, by simpa using World.var?_cell hg hv0 0⟩

theorem iw_of_laid {W : World} (h : laidMetH Tryz.prog laidList W) (hsh : W.ShapedOpen Tryz.prog) : Iw W := by
  have h1 : laidMetH Tryz.prog [("strconv.ErrSyntax", Rows.laid_strconv_ErrSyntax)] W := h.filter (fun x => x.1 == "strconv.ErrSyntax")
  have h2 : laidMetH Tryz.prog [("strconv.ErrRange", Rows.laid_strconv_ErrRange)] W := h.filter (fun x => x.1 == "strconv.ErrRange")
  have h1' : laidMet Tryz.prog [("strconv.ErrSyntax", Rows.laid_strconv_ErrSyntax)] W := h1
  have h2' : laidMet Tryz.prog [("strconv.ErrRange", Rows.laid_strconv_ErrRange)] W := h2
  exact ⟨tens_of_laid h, iface_of_laid h1' (g := 1) (by kernel_rfl) (ti := 55) (by kernel_rfl) Tryz.underlying55, iface_of_laid h2' (g := 2) (by kernel_rfl) (ti := 55) (by kernel_rfl) Tryz.underlying55, Tryz.lays146.s1_3 W hsh⟩

/-- The cells of a table of numbers. -/
def tabCells (k : IntKind) (zs : List Int) : Array Value := (zs.map (Value.int k)).toArray

/-- A variable's cells laid. -/
def putVar (g : Nat) (cs : Array Value) (h : Array Obj) : Array Obj := h.modify g fun
  | .cells _ t frozen => .cells cs t frozen
  | o => o

abbrev syntaxS : ByteArray := { data := #[105, 110, 118, 97, 108, 105, 100, 32, 115, 121, 110, 116, 97, 120] }
abbrev rangeS : ByteArray := { data := #[118, 97, 108, 117, 101, 32, 111, 117, 116, 32, 111, 102, 32, 114, 97, 110, 103, 101] }
noncomputable def low : Nat := (World.holding Tryz.prog default ⟨#[], #[], []⟩).heap.size

/-- A world that meets the list. -/
noncomputable def laidWorld (os : Os) : World :=
  let w0 := World.holding Tryz.prog os ⟨#[.cells #[.string syntaxS] 129, .cells #[.string rangeS] 129], #[], []⟩
  let h2 := putVar 3 (tabCells .u64 Lib.pow10Tab) w0.heap
  let h3 := putVar 6 (tabCells .u8 [0, 1, 28, 2, 29, 14, 24, 3, 30, 22, 20, 15, 25, 17, 4, 8, 31, 27, 13, 23, 21, 19, 16, 7, 26, 12, 18, 6, 11, 5, 10, 9]) h2
  let h4 := putVar 7 (tabCells .u8 [0, 1, 56, 2, 57, 49, 28, 3, 61, 58, 42, 50, 38, 29, 17, 4, 62, 47, 59, 36, 45, 43, 51, 22, 53, 39, 33, 30, 24, 18, 12, 5, 63, 55, 48, 27, 60, 41, 37, 16, 46, 35, 44, 21, 52, 32, 23, 11, 54, 26, 40, 15, 34, 20, 31, 10, 25, 14, 19, 9, 13, 8, 7, 6]) h3
  let h5 := putVar 1 #[.iface 127 (.pointer (some ⟨low, 0, none⟩))] h4
  let h6 := putVar 2 #[.iface 127 (.pointer (some ⟨low + 1, 0, none⟩))] h5
  let h7 := putVar 4 (Lib.firstTab.map fun z => Value.int .u8 z).toArray h6
  let h8 := putVar 5 ((List.range 16).flatMap fun i => [Value.int .u8 (Lib.accLo i), Value.int .u8 (Lib.accHi i)]).toArray h7
  { w0 with heap := h8 }

theorem laidWorld_met (os : Os) (args : Array Value) : laidMetH Tryz.prog laidList ((laidWorld os).forCall (fun _ _ => 0) ⟨#[], args, []⟩).memory :=
  laidMetH_of_parts (laidMet_of_run' 8 (by kernel_rfl) (by kernel_rfl)) (by kernel_rfl)
end Go.Proofs.YtppmnelgekhbnaaGreatDoor.IvW
