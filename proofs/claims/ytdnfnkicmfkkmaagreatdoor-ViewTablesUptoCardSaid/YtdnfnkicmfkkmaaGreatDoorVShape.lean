/- The wrap of a row that lists variables, the world's shape kept. -/
import Derived.Test.YtdnfnkicmfkkmaaGreatDoorVVwSt
import Derived.Test.YtdnfnkicmfkkmaaGreatDoorRows
import Derived.Test.YtdnfnkicmfkkmaaGreatDoorVKyRb
import Derived.Lib.LaidU8T
import Derived.LaidLaws
import Derived.LaidHandle
import Derived.LaidSub
import Derived.Lib.LaidTab
import Derived.Lib.LaidIn
import Derived.Shelf.Strings.SplitShaped
import Derived.Test.YtdnfnkicmfkkmaaGreatDoorVKyRd
import Derived.Test.YtdnfnkicmfkkmaaGreatDoorVVwKey
import Derived.Test.YtdnfnkicmfkkmaaGreatDoorVNoOrd
import Derived.Test.YtdnfnkicmfkkmaaGreatDoorVStrLaws
import Derived.Lib.SmallJoins
import Derived.OpenShut
import Derived.SliceStrings
import Derived.Test.YtdnfnkicmfkkmaaGreatDoorVKyLine
import Derived.Handed
import Derived.HandedShaped
set_option linter.unusedVariables false
set_option linter.unusedSimpArgs false
section
namespace Go.Proofs
open Go.Shelf Go.RowKit
end Go.Proofs
namespace Go.Proofs.YtdnfnkicmfkkmaaGreatDoor.Vw
open Go.RowKit Go.Shelf UtfW
abbrev laidList : List (String × DataW Unit) := Rows.viewTablesRow.laid
def u8r : Ren := { f := id, t := fun n => if n = 5 then 5 else if n = 119 then 250 else if n = 138 then 252 else 253, g := fun n => if n = 3 then 3 else 4 }
theorem first_data : Rows.laid_unicode_utf8_first = Lib.firstData := by kernel_rfl
theorem accept_data : Rows.laid_unicode_utf8_acceptRanges = Lib.acceptData := by kernel_rfl
theorem ut_of_laid {W : World} (h : laidMetH Tryz.prog laidList W) (hsh : W.ShapedOpen Tryz.prog) : Ut W := by
 have h1 : laidMetH Tryz.prog [("unicode/utf8.first", Rows.laid_unicode_utf8_first)] W := h.filter (fun x => x.1 == "unicode/utf8.first");have h2 : laidMetH Tryz.prog [("unicode/utf8.acceptRanges", Rows.laid_unicode_utf8_acceptRanges)] W := h.filter (fun x => x.1 == "unicode/utf8.acceptRanges");rw [first_data] at h1;rw [accept_data] at h2;have h1' : laidMet Tryz.prog [("unicode/utf8.first", Lib.firstData)] W := h1;have h2' : laidMet Tryz.prog [("unicode/utf8.acceptRanges", Lib.acceptData)] W := h2;have L : U8Types Tryz.prog u8r := ⟨by kernel_rfl, by kernel_rfl, by kernel_rfl, by kernel_rfl⟩;exact ⟨utf8Tabs_of_readsT L ⟨by kernel_rfl, by kernel_rfl, by kernel_rfl, by kernel_rfl, by kernel_rfl, by kernel_rfl, by kernel_rfl⟩ (Lib.laidMet.reads h1' (.head _)) (Lib.laidMet.reads h2' (.head _)), Tryz.lays146.s1_3 W hsh⟩
theorem tens_of_laid {W : World} (h : laidMetH Tryz.prog laidList W) : Nu.Tens W := by
 have h1 : laidMetH Tryz.prog [("internal/strconv.uint64pow10", Rows.laid_internal_strconv_uint64pow10)] W := h.filter (fun x => x.1 == "internal/strconv.uint64pow10");have h' : laidMet Tryz.prog [("internal/strconv.uint64pow10", Lib.tabData .u64 Lib.pow10Tab)] W := h1;exact Nu.Tens.of_tab (Lib.tabIs_of_head (rest := []) (g := 2) (by kernel_rfl) (t := 244) (by kernel_rfl) Tryz.underlying244 Tryz.underlying233 (by kernel_rfl) (by kernel_rfl) h')
def tabCells (k : IntKind) (zs : List Int) : Array Value := (zs.map (Value.int k)).toArray
def putVar (g : Nat) (cs : Array Value) (h : Array Obj) : Array Obj := h.modify g fun
 | .cells _ t frozen => .cells cs t frozen
 | o => o
noncomputable def laidWorld (os : Os) : World :=
 let w0 := World.holding Tryz.prog os ⟨#[], #[], []⟩
 let h0 := putVar 3 (Lib.firstTab.map fun z => Value.int .u8 z).toArray w0.heap
 let h1 := putVar 4 ((List.range 16).flatMap fun i => [Value.int .u8 (Lib.accLo i), Value.int .u8 (Lib.accHi i)]).toArray h0
 let h2 := putVar 2 (tabCells .u64 Lib.pow10Tab) h1
 let h3 := putVar 5 (tabCells .u8 [0, 1, 28, 2, 29, 14, 24, 3, 30, 22, 20, 15, 25, 17, 4, 8, 31, 27, 13, 23, 21, 19, 16, 7, 26, 12, 18, 6, 11, 5, 10, 9]) h2
 let h4 := putVar 6 (tabCells .u8 [0, 1, 56, 2, 57, 49, 28, 3, 61, 58, 42, 50, 38, 29, 17, 4, 62, 47, 59, 36, 45, 43, 51, 22, 53, 39, 33, 30, 24, 18, 12, 5, 63, 55, 48, 27, 60, 41, 37, 16, 46, 35, 44, 21, 52, 32, 23, 11, 54, 26, 40, 15, 34, 20, 31, 10, 25, 14, 19, 9, 13, 8, 7, 6]) h3
 { w0 with heap := h4 }
theorem laidWorld_met (os : Os) (args : Array Value) : laidMetH Tryz.prog laidList ((laidWorld os).forCall (fun _ _ => 0) ⟨#[], args, []⟩).memory :=
 laidMetH_of_parts (laidMet_of_run' 8 (by kernel_rfl) (by kernel_rfl)) (by kernel_rfl)
end Go.Proofs.YtdnfnkicmfkkmaaGreatDoor.Vw
end

section
namespace Go.Proofs.YtdnfnkicmfkkmaaGreatDoor.Ky
open Go.RowKit
section
variable {H : Type} {enc : TypeId × Value -> H} {w : World}
open Go.ChangeShapes in
theorem ts_len {P : Program} {t e : TypeId} {a : Option Addr} {n c : Nat} {d : DataW H} {p : List MemPlace}
  (ht : P.underlying t = some (.slice e)) (he : P.underlying e = some .string) (hc : P.cellsOf e = 1) (hby : P.bytesOf e = 16)
  (h : DataW.Trod enc P w 0 (fun _ => true) true t (.slice a n c) d p) (hz : Sized P t d) : n <= 140737488351232 := by
 obtain ⟨fuel, hf⟩ := h;rcases open_strings ht he hc hf with ⟨hcs, _⟩ | ⟨x, len, cap, zs, hcs, _, hl, hm, hzl, hx, hcell, hsz⟩
 ·simp [Value.cells] at hcs;obtain ⟨rfl, rfl, rfl⟩ := hcs;omega
 ·simp [Value.cells] at hcs;obtain ⟨rfl, rfl, rfl⟩ := hcs;simp only [if_true] at hzl;injection hx with hx _;subst hx;have hr := hz.row ht;rw [hby] at hr;simp only [strs, List.length_map, List.length_take, List.length_drop] at hr;omega
theorem ts_of_trod {P : Program} {t e : TypeId} {fuel : Nat} {v : Value} {d : DataW H} {p : List MemPlace} (ht : P.underlying t = some (.slice e)) (he : P.underlying e = some .string) (hc : P.cellsOf e = 1) (hby : P.bytesOf e = 16)
  (h : DataW.trod enc P w 0 (fun _ => true) true fuel t [v] = some (d, p)) (hz : Sized P t d) :
  ∃ A n c, ∃ l : List Tx, v = .slice A n c /\ Ts w A n c l /\ l.length <= 140737488351232 /\ ∀ x ∈ l, x.length <= 140737488351232 := by
 have key : ∀ A n c, v = .slice A n c -> ∃ A n c, ∃ l : List Tx, v = .slice A n c /\ Ts w A n c l /\ l.length <= 140737488351232 /\ ∀ x ∈ l, x.length <= 140737488351232 := by
  rintro A n c rfl;obtain ⟨ss, h1, h2⟩ := ss_of_trod (a := A) (n := n) (c := c) (d := d) (p := p) ht he hc ⟨fuel, h⟩ hz;have hlen := ts_len (a := A) (n := n) (c := c) (d := d) (p := p) ht he hc hby ⟨fuel, h⟩ hz;refine ⟨A, n, c, ss.map (·.data.toList), rfl, Ts.of_ss h1, by rw [(Ts.of_ss h1).len]; exact hlen, fun x hx => ?_⟩;obtain ⟨s, hs, rfl⟩ := List.mem_map.1 hx;have := h2 s hs;rw [Array.length_toList];exact this
 rcases Go.ChangeShapes.open_strings ht he hc h with ⟨hcs, _⟩ | ⟨x, len, cap, zs, hcs, _⟩
 ·injection hcs with hcs _;exact key _ _ _ hcs
 ·injection hcs with hcs _;exact key _ _ _ hcs
def RlB (w : World) (vs : List Value) (r : Rl) : Prop := RlEl w vs r /\ (r.1.length <= 140737488351232 /\ r.2.length <= 140737488351232) /\ (∀ x ∈ r.1, x.length <= 140737488351232) /\ ∀ x ∈ r.2, x.length <= 140737488351232
set_option maxRecDepth 100000 in
theorem rule_each (m : Nat) (vs : List Value) {fs : Array Field} (hs : Tryz.prog.underlying 70 = some (.struct fs)) (h : Fields enc Tryz.prog w fs m vs) : ∃ x, RlB w vs x := by
 have e := Tryz.underlying70;rw [hs] at e;injection e with e;injection e with e;subst e;obtain ⟨hl, hf⟩ := h;obtain ⟨v0, y0, e0, t0, s0⟩ := hf 0 _ rfl;obtain ⟨v1, y1, e1, t1, s1⟩ := hf 1 _ rfl;obtain ⟨A, n, c, l, rfl, h1, k1, g1⟩ := ts_of_trod Tryz.underlying33 Tryz.underlying9 (by kernel_rfl) (by kernel_rfl) (d := y0.1) (p := y0.2) t0 s0;obtain ⟨A', n', c', l', rfl, h2, k2, g2⟩ := ts_of_trod Tryz.underlying33 Tryz.underlying9 (by kernel_rfl) (by kernel_rfl) (d := y1.1) (p := y1.2) t1 s1
 have hvs : vs = [.slice A n c, .slice A' n' c'] := by
  match vs, hl with
  | [x, y], _ => simp at e0 e1; rw [e0, e1]
 exact ⟨(l, l'), ⟨A, n, c, A', n', c', hvs, h1, h2⟩, ⟨k1, k2⟩, g1, g2⟩
set_option maxRecDepth 100000 in
theorem rules_of_trod {a : Option Addr} {n c : Nat} {d : DataW H} {p : List MemPlace} (h : DataW.Trod enc Tryz.prog w 0 (fun _ => true) true 22 (.slice a n c) d p) (hz : Sized Tryz.prog 22 d) :
  ∃ l, Rs w a n c l /\ Big l := by
 obtain ⟨l, hl, _⟩ := sq_of_trod (El := RlB) Tryz.underlying22 Tryz.underlying70 (by kernel_rfl) (by kernel_rfl) (by decide) (fun m vs h => rule_each m vs Tryz.underlying70 h) h hz;refine ⟨l, ⟨hl.len, hl.le, hl.max, hl.nil, fun h0 => ?_⟩, fun r hr => ?_⟩
 ·obtain ⟨b, off, e, hb, hc⟩ := hl.cell h0
  exact ⟨b, off, e, hb, fun i x hx => by
   obtain ⟨vs, g1, g2, g3⟩ := hc i x hx
   exact ⟨vs, g1, g2.1, g3⟩⟩
 ·obtain ⟨i, hi⟩ := List.mem_iff_getElem?.1 hr;have hlt := (List.getElem?_eq_some_iff.1 hi).1;have hll := hl.len;obtain ⟨b, off, e, hb, hc⟩ := hl.cell (by omega);obtain ⟨vs, g1, g2, g3⟩ := hc i r hi;exact g2.2
end
end Go.Proofs.YtdnfnkicmfkkmaaGreatDoor.Ky
end

section
namespace Go.Proofs.YtdnfnkicmfkkmaaGreatDoor
open Go.RowKit UtfW Xl Xt
open Go.Proofs.YtdnfnkicmfkkmaaGreatDoor.Ky (Rs)
namespace viewTablesW
theorem walk (A : Option Addr) (m c : Nat) (l : List Ky.Rl) (vs : List Value) (n : Nd) (S : ByteArray) (W : World) (hL : laidMetH Tryz.prog Vw.laidList W) (hsh : W.ShapedOpen Tryz.prog) (h : Rs W A m c l) (hB : Ky.Big l) (hn : NdI (fun j => j < W.heap.size) W vs n) (hz : wN n <= 1048576) (_ : S.size <= 9223372036854775807) :
  Calls Tryz.prog 3 #[.slice A m c, .agg vs.toArray, .string S] W fun e w' => e = .returned (.bool true) /\ Below W.heap.size W w' :=
 Vw.tables_law W (Vw.ut_of_laid hL hsh) (Vw.tens_of_laid hL) A m c l vs n h hB hn (by omega) S
end viewTablesW
namespace viewPathsW
end viewPathsW
namespace viewSpansW
end viewSpansW
namespace viewAxesW
end viewAxesW
end Go.Proofs.YtdnfnkicmfkkmaaGreatDoor
end

section
namespace Go.Proofs.YtdnfnkicmfkkmaaGreatDoor
open Go
end Go.Proofs.YtdnfnkicmfkkmaaGreatDoor
end
