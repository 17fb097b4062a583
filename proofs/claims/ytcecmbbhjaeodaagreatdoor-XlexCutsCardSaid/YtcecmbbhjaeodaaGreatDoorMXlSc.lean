/- The scanner of xlex in memory; how it leaves the scan. -/
import Derived.Test.YtcecmbbhjaeodaaGreatDoorMXlLex
import Derived.Test.YtcecmbbhjaeodaaGreatDoorMWords
import Derived.Test.YtcecmbbhjaeodaaGreatDoorMStrLaws
import Derived.Test.YtcecmbbhjaeodaaGreatDoorMUtfBad
import Derived.Maps.AppendAt
import Derived.WalkLawsBesides
import Derived.Laws.Rows
import Derived.Deep.Heap
import Derived.BigQuiet
import Derived.BigRegion
import Derived.Deep.QuietTactic
import Derived.Lib.SmallJoins
import Derived.Shelf.Strings.CaseAny
namespace Go.Proofs.YtcecmbbhjaeodaaGreatDoor.Xl
open Go.RowKit UtfW

/-- What leaves the scan. -/
def wr (c k : Int) : PanicEntry := { v := .iface 75 (.agg #[.int .i64 c, .int .i64 k]), recovered := false }

/-- How the letters of xml fold. -/
def foldT : List (Nat × Nat) := [(120, 88), (109, 77), (108, 76), (88, 120), (77, 109), (76, 108)]
/-- What the list's variables give. -/
structure Un (w : World) : Prop where
  ut : Ut w
  fold : ∀ x ∈ foldT, w.cell? ⟨4, x.1, none⟩ = some (.int .u16 (x.2 : Nat))
  case_ : Lib.CaseVar 6 Lib.caseA w
theorem Un.below {w w' : World} (h : Un w) (hb : Below w.heap.size w w') : Un w' :=
  ⟨h.ut.below hb, fun x hx => (hb.cell (World.block_lt_of_cell? w _ (h.fold x hx))).trans (h.fold x hx), Lib.CaseVar_below h.case_ hb⟩
/-- What the list's variables hold lies ahead of block b. -/
def Us (b : Nat) (w : World) : Prop := ∃ w0, Un w0 ∧ w0.heap.size ≤ b ∧ Below w0.heap.size w0 w
theorem Us.un {b : Nat} {w : World} (h : Us b w) : Un w := by
  obtain ⟨w0, h1, _, h3⟩ := h
  exact h1.below h3
theorem Us.ut {b : Nat} {w : World} (h : Us b w) : Ut w := h.un.ut
theorem Us.on {b : Nat} {w w' : World} (h : Us b w) (hb : Below b w w') : Us b w' := by
  obtain ⟨w0, h1, h2, h3⟩ := h
  exact ⟨w0, h1, h2, h3.trans (hb.mono h2)⟩

/-- The scanner's block, and the bytes elsewhere. -/
structure Xc (w : World) (b : Nat) (S : Tx) (k : Nat) (A : Option Addr) (c : Nat) (vo : Value) : Prop where
  us : Us b w
  blk : w.heap[b]? = some (.cells #[.slice A S.length c, .int .i64 (k : Nat), vo] 53)
  bs : Bs w A S.length c S
  ne : ∀ a, A = some a → 0 < S.length → a.block ≠ b

theorem below_row {w w' : World} {B row : Nat} (hg : w.grownBy w' (some row)) (hB : B ≤ row) (hs : B ≤ w.heap.size) : Below B w w' :=
  ⟨hg.os, hg.tape, hg.output, hg.size, fun k hk => hg.block k (by omega) (by simp; omega)⟩
theorem grown_set (w : World) (p : Addr) (x : Value) : w.grownBy (w.setCell p x) (some p.block) := by
  refine ⟨rfl, rfl, rfl, by simp [World.setCell], fun k hk hne => ?_⟩
  have : p.block ≠ k := fun e => hne (by rw [e])
  simp [World.setCell, Array.getElem?_modify, this]
theorem grown_in {w w' : World} {r : Option Nat} (h : Below w.heap.size w w') : w.grownBy w' r :=
  ⟨h.os, h.tape, h.output, h.size, fun k hk _ => h.block k hk⟩
theorem blk_setCell {w : World} {b i : Nat} {cs : Array Value} {E : TypeId} (h : w.heap[b]? = some (.cells cs E)) (v : Value) : (w.setCell ⟨b, i, none⟩ v).heap[b]? = some (.cells (cs.setIfInBounds i v) E) := by
  simp [World.setCell, Array.getElem?_modify, h]

section
variable {w w' : World} {b : Nat} {S : Tx} {k : Nat} {A : Option Addr} {c : Nat} {vo : Value}
theorem Xc.lt (h : Xc w b S k A c vo) : b < w.heap.size := (Array.getElem?_eq_some_iff.1 h.blk).1
theorem Xc.frozen (h : Xc w b S k A c vo) (i : Nat) : w.frozen? ⟨b, i, none⟩ = false := frozen_of_row w b i _ _ h.blk
theorem Xc.c0 (h : Xc w b S k A c vo) : w.cell? ⟨b, 0, none⟩ = some (.slice A S.length c) := by simp [World.cell?, h.blk]
theorem Xc.c1 (h : Xc w b S k A c vo) : w.cell? ⟨b, 1, none⟩ = some (.int .i64 (k : Nat)) := by simp [World.cell?, h.blk]
theorem Xc.c2 (h : Xc w b S k A c vo) : w.cell? ⟨b, 2, none⟩ = some vo := by simp [World.cell?, h.blk]
/-- The scanner's block alone has turned. -/
theorem Xc.on (h : Xc w b S k A c vo) (hg : w.grownBy w' (some b)) {k' : Nat} {vo' : Value} (hb : w'.heap[b]? = some (.cells #[.slice A S.length c, .int .i64 (k' : Nat), vo'] 53)) : Xc w' b S k' A c vo' :=
  ⟨h.us.on (below_row hg (Nat.le_refl _) (Nat.le_of_lt h.lt)), hb, Rd.grown h.bs hg fun a e hn e2 => h.ne a e hn (by injection e2), h.ne⟩
theorem Xc.below (h : Xc w b S k A c vo) (hb : Below w.heap.size w w') : Xc w' b S k A c vo :=
  h.on (grown_in hb) ((hb.block b h.lt).trans h.blk)
theorem Xc.set1 (h : Xc w b S k A c vo) (k' : Nat) : Xc (w.setCell ⟨b, 1, none⟩ (.int .i64 (k' : Nat))) b S k' A c vo ∧ w.grownBy (w.setCell ⟨b, 1, none⟩ (.int .i64 (k' : Nat))) (some b) := by
  have hg := grown_set w ⟨b, 1, none⟩ (.int .i64 (k' : Nat))
  exact ⟨h.on hg (blk_setCell h.blk _), hg⟩
/-- The bytes from a place on. -/
theorem Xc.at_ (h : Xc w b S k A c vo) {j : Nat} (hj : j < S.length) : ∃ ba off, A = some ⟨ba, off, none⟩ ∧ S[j]? = some S[j] ∧ w.cell? ⟨ba, off + j, none⟩ = some (.int .u8 (S[j].toNat : Int)) := by
  obtain ⟨ba, off, e, hlt, hc⟩ := Rd.cell h.bs (by omega)
  have hx : S[j]? = some S[j] := List.getElem?_eq_getElem hj
  exact ⟨ba, off, e, hx, hc j _ (by simp [bv, hx])⟩
end

/-- What a method gives that hands a plain value back. -/
def Gives {α : Type} (w : World) (b : Nat) (S : Tx) (k : Nat) (A : Option Addr) (c : Nat) (vo : Value) (V : α → Value) (x : Out α) (e : Ending) (w' : World) : Prop :=
  w.grownBy w' (some b) ∧ match x with
  | .bad cd o => e = .panicked [wr cd ((k + o : Nat) : Int)]
  | .ok v n => e = .returned (V v) ∧ Xc w' b S (k + n) A c vo

set_option maxRecDepth 100000 in
theorem fail_any (w : World) (c k : Int) : Calls Tryz.prog 63 #[.int .i64 c, .int .i64 k] w fun e w' => e = .panicked [wr c k] ∧ w' = w := by
  go_enter Tryz.func63, Tryz.ntmps63
  go_wp2_with fail
  exact ⟨rfl, rfl, rfl⟩

section
variable (w : World) (b : Nat) (S : Tx) (k : Nat) (A : Option Addr) (c : Nat) (vo : Value)
set_option maxRecDepth 100000 in
theorem need_ok (h : Xc w b S k A c vo) (hk : k < S.length) : Calls Tryz.prog 92 #[.pointer (some ⟨b, 0, none⟩)] w fun e w' => e = .returned (.tuple #[]) ∧ Below w.heap.size w w' := by
  have c0 := h.c0
  have c1 := h.c1
  have i0 : decide ((S.length : Int) ≤ (k : Int)) = false := by simp; omega
  go_enter Tryz.func92, Tryz.ntmps92
  go_wp2_with fail
  go_quiet (fail)
  go_wp2_with fail
  go_end0
  exact ⟨rfl, Joins.below_draws _ _ _⟩
set_option maxRecDepth 100000 in
theorem need_bad (h : Xc w b S k A c vo) (hk : S.length ≤ k) : Calls Tryz.prog 92 #[.pointer (some ⟨b, 0, none⟩)] w fun e w' => e = .panicked [wr 6 S.length] ∧ Below w.heap.size w w' := by
  have c0 := h.c0
  have c1 := h.c1
  have i0 : decide ((S.length : Int) ≤ (k : Int)) = true := by simp; omega
  go_enter Tryz.func92, Tryz.ntmps92
  go_wp2_with fail
  go_quiet (fail)
  go_wp2_with fail
  refine (fail_any _ 6 S.length).mono ?_
  rintro e w1 ⟨rfl, rfl⟩
  go_wp2_with fail
  exact ⟨rfl, rfl, Joins.below_draws _ _ _⟩
end
end Go.Proofs.YtcecmbbhjaeodaaGreatDoor.Xl
