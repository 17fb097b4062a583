/- Single steps of the plain lexer, at a place of the whole. No program stands here. -/
import Derived.Test.YtokdnhdfmgfkeaaGreatDoorUStrLaws
import Derived.Test.YtokdnhdfmgfkeaaGreatDoorUUtfEnc
import Derived.Maps.AppendAt
import Derived.WalkLawsBesides
import Derived.Laws.Rows
import Derived.Deep.Heap
import Derived.BigQuiet
import Derived.BigRegion
import Derived.Deep.QuietTactic
import Derived.Lib.SmallJoins
import Derived.Shelf.Strings.CaseAny
import Derived.Shelf.Lay
import Derived.Ground.NamesProg
import Derived.Shelf.Strings.Prefix
import Derived.Shelf.Small.Strs
import Derived.Shelf.Small.Wraps
import Derived.Shelf.Strings.Fold
import Derived.Shelf.Bytes.SlSmallAll
import Derived.Shelf.Bytes.SlIndexWhole
import Derived.Shelf.Bytes.IndexByte
import Derived.Shelf.Bytes.SlClone
set_option linter.unusedVariables false
set_option linter.unusedSimpArgs false
section
namespace Go.Proofs.YtokdnhdfmgfkeaaGreatDoor.Xl
open Go.RowKit UtfW

def wr (c k : Int) : PanicEntry := { v := .iface 176 (.agg #[.int .i64 c, .int .i64 k]), recovered := false }

def foldT : List (Nat × Nat) := [(120, 88), (109, 77), (108, 76), (88, 120), (77, 109), (76, 108)]
structure Un (w : World) : Prop where
  ut : Ut w
  fold : ∀ x ∈ foldT, w.cell? ⟨5, x.1, none⟩ = some (.int .u16 (x.2 : Nat))
  case_ : Lib.CaseVar 4 Lib.caseA w
theorem Un.below {w w' : World} (h : Un w) (hb : Below w.heap.size w w') : Un w' :=
  ⟨h.ut.below hb, fun x hx => (hb.cell (World.block_lt_of_cell? w _ (h.fold x hx))).trans (h.fold x hx), Lib.CaseVar_below h.case_ hb⟩
def Us (b : Nat) (w : World) : Prop := ∃ w0, Un w0 ∧ w0.heap.size ≤ b ∧ Below w0.heap.size w0 w
theorem Us.un {b : Nat} {w : World} (h : Us b w) : Un w := by
  obtain ⟨w0, h1, _, h3⟩ := h
  exact h1.below h3
theorem Us.ut {b : Nat} {w : World} (h : Us b w) : Ut w := h.un.ut
theorem Us.on {b : Nat} {w w' : World} (h : Us b w) (hb : Below b w w') : Us b w' := by
  obtain ⟨w0, h1, h2, h3⟩ := h
  exact ⟨w0, h1, h2, h3.trans (hb.mono h2)⟩

structure Xc (w : World) (b : Nat) (S : Tx) (k : Nat) (A : Option Addr) (c : Nat) (vo : Value) : Prop where
  us : Us b w
  blk : w.heap[b]? = some (.cells #[.slice A S.length c, .int .i64 (k : Nat), vo] 134)
  bs : Bs w A S.length c S
  ne : ∀ a, A = some a → 0 < S.length → a.block ≠ b

theorem below_row {w w' : World} {B row : Nat} (hg : w.grownBy w' (some row)) (hB : B ≤ row) (hs : B ≤ w.heap.size) : Below B w w' :=
  ⟨hg.os, hg.tape, hg.output, hg.size, fun k hk => hg.block k (by omega) (by simp; omega)⟩
theorem grown_set (w : World) (p : Addr) (x : Value) : w.grownBy (w.setCell p x) (some p.block) := by
  refine ⟨rfl, rfl, rfl, by simp [World.setCell], fun k hk hne => ?_⟩
  have : p.block ≠ k := fun e => hne (by rw [e])
  simp [World.setCell, Array.getElem?_modify, this]
theorem grown_in {w w' : World} {r : Option Nat} (h : Below w.heap.size w w') : w.grownBy w' r :=
  ⟨h.os, h.tape, h.output, h.size, fun k hk _ => h.block k hk⟩
theorem blk_setCell {w : World} {b i : Nat} {cs : Array Value} {E : TypeId} (h : w.heap[b]? = some (.cells cs E)) (v : Value) : (w.setCell ⟨b, i, none⟩ v).heap[b]? = some (.cells (cs.setIfInBounds i v) E) := by
  simp [World.setCell, Array.getElem?_modify, h]

section
variable {w w' : World} {b : Nat} {S : Tx} {k : Nat} {A : Option Addr} {c : Nat} {vo : Value}
theorem Xc.lt (h : Xc w b S k A c vo) : b < w.heap.size := (Array.getElem?_eq_some_iff.1 h.blk).1
theorem Xc.frozen (h : Xc w b S k A c vo) (i : Nat) : w.frozen? ⟨b, i, none⟩ = false := frozen_of_row w b i _ _ h.blk
theorem Xc.c0 (h : Xc w b S k A c vo) : w.cell? ⟨b, 0, none⟩ = some (.slice A S.length c) := by simp [World.cell?, h.blk]
theorem Xc.c1 (h : Xc w b S k A c vo) : w.cell? ⟨b, 1, none⟩ = some (.int .i64 (k : Nat)) := by simp [World.cell?, h.blk]
theorem Xc.c2 (h : Xc w b S k A c vo) : w.cell? ⟨b, 2, none⟩ = some vo := by simp [World.cell?, h.blk]
theorem Xc.on (h : Xc w b S k A c vo) (hg : w.grownBy w' (some b)) {k' : Nat} {vo' : Value} (hb : w'.heap[b]? = some (.cells #[.slice A S.length c, .int .i64 (k' : Nat), vo'] 134)) : Xc w' b S k' A c vo' :=
  ⟨h.us.on (below_row hg (Nat.le_refl _) (Nat.le_of_lt h.lt)), hb, Rd.grown h.bs hg fun a e hn e2 => h.ne a e hn (by injection e2), h.ne⟩
theorem Xc.below (h : Xc w b S k A c vo) (hb : Below w.heap.size w w') : Xc w' b S k A c vo :=
  h.on (grown_in hb) ((hb.block b h.lt).trans h.blk)
theorem Xc.at_ (h : Xc w b S k A c vo) {j : Nat} (hj : j < S.length) : ∃ ba off, A = some ⟨ba, off, none⟩ ∧ S[j]? = some S[j] ∧ w.cell? ⟨ba, off + j, none⟩ = some (.int .u8 (S[j].toNat : Int)) := by
  obtain ⟨ba, off, e, hlt, hc⟩ := Rd.cell h.bs (by omega)
  have hx : S[j]? = some S[j] := List.getElem?_eq_getElem hj
  exact ⟨ba, off, e, hx, hc j _ (by simp [bv, hx])⟩
end

section
variable (w : World) (b : Nat) (S : Tx) (k : Nat) (A : Option Addr) (c : Nat) (vo : Value)
end
end Go.Proofs.YtokdnhdfmgfkeaaGreatDoor.Xl
end

section
namespace Go.Proofs
open Go.Shelf Go.RowKit

shelf_lay Lays.n99 Nm 99 at Tryz as Tryz.lays99
shelf_lay Lays.n103 Nm 103 at Tryz as Tryz.lays103
shelf_lay Lays.n137 Nm 137 at Tryz as Tryz.lays137
shelf_lay Lays.nb116 Nm 116 at Tryz as Tryz.laysB116
shelf_lay Lays.n185 Nm 185 at Tryz as Tryz.lays185
shelf_lay Lays.n187 Nm 187 at Tryz as Tryz.lays187
shelf_lay SlLaysK.n4 Slk 4 at Tryz as Tryz.laysClone

end Go.Proofs
namespace Go.Proofs.YtokdnhdfmgfkeaaGreatDoor.Xl
open Go.RowKit Go.Shelf UtfW

section
variable {w : World} {A : Option Addr} {n c : Nat} {l : Tx}
end

def idxV : Option Nat → Int
  | none => -1
  | some n => (n : Nat)
theorem index_find (t : Tx) : ∀ l : Tx, Lib.index l t = idxV (find t l)
  | [] => by
    unfold Lib.index find
    cases t <;> rfl
  | b :: l => by
    rw [Lib.index, find]
    split
    · rfl
    · rw [index_find t l]
      cases find t l with
      | none => rfl
      | some n =>
        have h : ((idxV (some n)) == -1) = false := by simp [idxV]
        simp only [h, Bool.false_eq_true, if_false]
        simp [idxV]
theorem byte_find (x : UInt8) : ∀ l : Tx, Lib.indexByte l x = idxV (find [x] l)
  | [] => rfl
  | b :: l => by
    rw [Lib.indexByte, find]
    have e : ([x].isPrefixOf (b :: l)) = (b == x) := by
      simp [List.isPrefixOf]
      exact Bool.beq_comm
    rw [e]
    split
    · rfl
    · rw [byte_find x l]
      cases find [x] l with
      | none => rfl
      | some n =>
        have h : ((idxV (some n)) == -1) = false := by simp [idxV]
        simp only [h, Bool.false_eq_true, if_false]
        simp [idxV]
theorem byteS_any (s : Tx) (x : UInt8) (w : World) :
    Calls Tryz.prog 75 #[.string (strOf s), .int .u8 x.toNat] w fun e w' => e = .returned (.int .i64 (idxV (find [x] s))) ∧ w' = w := by
  refine Calls.mono (Any.strings_IndexByte Tryz.lays137 (strOf s) x.toNat w) ?_
  rintro e w' ⟨rfl, rfl⟩
  have : (x.toNat : Int).toNat.toUInt8 = x := by simp
  rw [this, ← byte_find]
  exact ⟨rfl, rfl⟩

end Go.Proofs.YtokdnhdfmgfkeaaGreatDoor.Xl
end

section
namespace Go.Proofs.YtokdnhdfmgfkeaaGreatDoor.Xl
open Go.RowKit UtfW

section
variable {p S : Tx} {i k : Nat} {x y : UInt8}
end
end Go.Proofs.YtokdnhdfmgfkeaaGreatDoor.Xl
end
