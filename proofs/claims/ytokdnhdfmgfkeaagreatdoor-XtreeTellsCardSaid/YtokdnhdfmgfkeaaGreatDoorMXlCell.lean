/- Attributes and tokens in cells of their own; results that are structs. -/
import Derived.Test.YtokdnhdfmgfkeaaGreatDoorMRowS
import Derived.Lib.Strings
import Derived.Test.YtokdnhdfmgfkeaaGreatDoorMXlLex
import Derived.Test.YtokdnhdfmgfkeaaGreatDoorMQxVal
import Derived.Maps.AppendAt
import Derived.WalkLawsBesides
import Derived.Laws.Rows
import Derived.Deep.Heap
import Derived.BigQuiet
import Derived.BigRegion
import Derived.Deep.QuietTactic
import Derived.Lib.SmallJoins
import Derived.Shelf.Strings.CaseAny
import Derived.Laws.ResultCell
section
namespace Go.Proofs.YtokdnhdfmgfkeaaGreatDoor
open Go.RowKit

theorem strOf_size' (l : List UInt8) : (strOf l).size = l.length := by simp [strOf, ByteArray.size]
theorem strOf_add (a b : List UInt8) : strOf a ++ strOf b = strOf (a ++ b) := by
  unfold strOf
  apply ByteArray.ext
  simp [ByteArray.data_append]
theorem strOf_cut (l : List UInt8) (a b : Nat) : (strOf l).extract a b = strOf ((l.drop a).take (b - a)) := by
  apply ByteArray.ext
  apply Array.ext'
  rw [ByteArray.data_extract, Array.toList_extract]
  rfl
theorem strOf_empty (l : List UInt8) : (strOf l).toList.isEmpty = l.isEmpty := by
  rw [Lib.toList_data]
  rfl
theorem str_beq (a b : ByteArray) : (a.toList == b.toList) = decide (a = b) := by
  rw [Lib.toList_data, Lib.toList_data, Bool.eq_iff_iff, beq_iff_eq, decide_eq_true_eq]
  constructor
  · intro h
    apply ByteArray.ext
    exact Array.ext' h
  · intro h
    rw [h]
end Go.Proofs.YtokdnhdfmgfkeaaGreatDoor
end

section
namespace Go.Proofs.YtokdnhdfmgfkeaaGreatDoor.Xl
open Go.RowKit UtfW

def wr (c k : Int) : PanicEntry := { v := .iface 176 (.agg #[.int .i64 c, .int .i64 k]), recovered := false }

def foldT : List (Nat × Nat) := [(120, 88), (109, 77), (108, 76), (88, 120), (77, 109), (76, 108)]
structure Un (w : World) : Prop where
  ut : Ut w
  fold : ∀ x ∈ foldT, w.cell? ⟨5, x.1, none⟩ = some (.int .u16 (x.2 : Nat))
  case_ : Lib.CaseVar 4 Lib.caseA w
theorem Un.below {w w' : World} (h : Un w) (hb : Below w.heap.size w w') : Un w' :=
  ⟨h.ut.below hb, fun x hx => (hb.cell (World.block_lt_of_cell? w _ (h.fold x hx))).trans (h.fold x hx), Lib.CaseVar_below h.case_ hb⟩
def Us (b : Nat) (w : World) : Prop := ∃ w0, Un w0 ∧ w0.heap.size ≤ b ∧ Below w0.heap.size w0 w
theorem Us.un {b : Nat} {w : World} (h : Us b w) : Un w := by
  obtain ⟨w0, h1, _, h3⟩ := h
  exact h1.below h3
theorem Us.ut {b : Nat} {w : World} (h : Us b w) : Ut w := h.un.ut
theorem Us.on {b : Nat} {w w' : World} (h : Us b w) (hb : Below b w w') : Us b w' := by
  obtain ⟨w0, h1, h2, h3⟩ := h
  exact ⟨w0, h1, h2, h3.trans (hb.mono h2)⟩

structure Xc (w : World) (b : Nat) (S : Tx) (k : Nat) (A : Option Addr) (c : Nat) (vo : Value) : Prop where
  us : Us b w
  blk : w.heap[b]? = some (.cells #[.slice A S.length c, .int .i64 (k : Nat), vo] 134)
  bs : Bs w A S.length c S
  ne : ∀ a, A = some a → 0 < S.length → a.block ≠ b

theorem below_row {w w' : World} {B row : Nat} (hg : w.grownBy w' (some row)) (hB : B ≤ row) (hs : B ≤ w.heap.size) : Below B w w' :=
  ⟨hg.os, hg.tape, hg.output, hg.size, fun k hk => hg.block k (by omega) (by simp; omega)⟩
theorem grown_set (w : World) (p : Addr) (x : Value) : w.grownBy (w.setCell p x) (some p.block) := by
  refine ⟨rfl, rfl, rfl, by simp [World.setCell], fun k hk hne => ?_⟩
  have : p.block ≠ k := fun e => hne (by rw [e])
  simp [World.setCell, Array.getElem?_modify, this]
theorem grown_in {w w' : World} {r : Option Nat} (h : Below w.heap.size w w') : w.grownBy w' r :=
  ⟨h.os, h.tape, h.output, h.size, fun k hk _ => h.block k hk⟩
theorem blk_setCell {w : World} {b i : Nat} {cs : Array Value} {E : TypeId} (h : w.heap[b]? = some (.cells cs E)) (v : Value) : (w.setCell ⟨b, i, none⟩ v).heap[b]? = some (.cells (cs.setIfInBounds i v) E) := by
  simp [World.setCell, Array.getElem?_modify, h]

section
variable {w w' : World} {b : Nat} {S : Tx} {k : Nat} {A : Option Addr} {c : Nat} {vo : Value}
theorem Xc.lt (h : Xc w b S k A c vo) : b < w.heap.size := (Array.getElem?_eq_some_iff.1 h.blk).1
theorem Xc.frozen (h : Xc w b S k A c vo) (i : Nat) : w.frozen? ⟨b, i, none⟩ = false := frozen_of_row w b i _ _ h.blk
theorem Xc.c0 (h : Xc w b S k A c vo) : w.cell? ⟨b, 0, none⟩ = some (.slice A S.length c) := by simp [World.cell?, h.blk]
theorem Xc.c1 (h : Xc w b S k A c vo) : w.cell? ⟨b, 1, none⟩ = some (.int .i64 (k : Nat)) := by simp [World.cell?, h.blk]
theorem Xc.c2 (h : Xc w b S k A c vo) : w.cell? ⟨b, 2, none⟩ = some vo := by simp [World.cell?, h.blk]
theorem Xc.on (h : Xc w b S k A c vo) (hg : w.grownBy w' (some b)) {k' : Nat} {vo' : Value} (hb : w'.heap[b]? = some (.cells #[.slice A S.length c, .int .i64 (k' : Nat), vo'] 134)) : Xc w' b S k' A c vo' :=
  ⟨h.us.on (below_row hg (Nat.le_refl _) (Nat.le_of_lt h.lt)), hb, Rd.grown h.bs hg fun a e hn e2 => h.ne a e hn (by injection e2), h.ne⟩
theorem Xc.below (h : Xc w b S k A c vo) (hb : Below w.heap.size w w') : Xc w' b S k A c vo :=
  h.on (grown_in hb) ((hb.block b h.lt).trans h.blk)
theorem Xc.set1 (h : Xc w b S k A c vo) (k' : Nat) : Xc (w.setCell ⟨b, 1, none⟩ (.int .i64 (k' : Nat))) b S k' A c vo ∧ w.grownBy (w.setCell ⟨b, 1, none⟩ (.int .i64 (k' : Nat))) (some b) := by
  have hg := grown_set w ⟨b, 1, none⟩ (.int .i64 (k' : Nat))
  exact ⟨h.on hg (blk_setCell h.blk _), hg⟩
theorem Xc.at_ (h : Xc w b S k A c vo) {j : Nat} (hj : j < S.length) : ∃ ba off, A = some ⟨ba, off, none⟩ ∧ S[j]? = some S[j] ∧ w.cell? ⟨ba, off + j, none⟩ = some (.int .u8 (S[j].toNat : Int)) := by
  obtain ⟨ba, off, e, hlt, hc⟩ := Rd.cell h.bs (by omega)
  have hx : S[j]? = some S[j] := List.getElem?_eq_getElem hj
  exact ⟨ba, off, e, hx, hc j _ (by simp [bv, hx])⟩
end

def Gives {α : Type} (w : World) (b : Nat) (S : Tx) (k : Nat) (A : Option Addr) (c : Nat) (vo : Value) (V : α → Value) (x : Out α) (e : Ending) (w' : World) : Prop :=
  w.grownBy w' (some b) ∧ match x with
  | .bad cd o => e = .panicked [wr cd ((k + o : Nat) : Int)]
  | .ok v n => e = .returned (V v) ∧ Xc w' b S (k + n) A c vo

set_option maxRecDepth 100000 in
theorem fail_any (w : World) (c k : Int) : Calls Tryz.prog 160 #[.int .i64 c, .int .i64 k] w fun e w' => e = .panicked [wr c k] ∧ w' = w := by
  go_enter Tryz.func160, Tryz.ntmps160
  go_wp2_with fail
  exact ⟨rfl, rfl, rfl⟩

section
variable (w : World) (b : Nat) (S : Tx) (k : Nat) (A : Option Addr) (c : Nat) (vo : Value)
set_option maxRecDepth 100000 in
theorem need_ok (h : Xc w b S k A c vo) (hk : k < S.length) : Calls Tryz.prog 186 #[.pointer (some ⟨b, 0, none⟩)] w fun e w' => e = .returned (.tuple #[]) ∧ Below w.heap.size w w' := by
  have c0 := h.c0
  have c1 := h.c1
  have i0 : decide ((S.length : Int) ≤ (k : Int)) = false := by simp; omega
  go_enter Tryz.func186, Tryz.ntmps186
  go_wp2_with fail
  go_quiet (fail)
  go_wp2_with fail
  go_end0
  exact ⟨rfl, Joins.below_draws _ _ _⟩
set_option maxRecDepth 100000 in
theorem need_bad (h : Xc w b S k A c vo) (hk : S.length ≤ k) : Calls Tryz.prog 186 #[.pointer (some ⟨b, 0, none⟩)] w fun e w' => e = .panicked [wr 6 S.length] ∧ Below w.heap.size w w' := by
  have c0 := h.c0
  have c1 := h.c1
  have i0 : decide ((S.length : Int) ≤ (k : Int)) = true := by simp; omega
  go_enter Tryz.func186, Tryz.ntmps186
  go_wp2_with fail
  go_quiet (fail)
  go_wp2_with fail
  refine (fail_any _ 6 S.length).mono ?_
  rintro e w1 ⟨rfl, rfl⟩
  go_wp2_with fail
  exact ⟨rfl, rfl, Joins.below_draws _ _ _⟩
end
end Go.Proofs.YtokdnhdfmgfkeaaGreatDoor.Xl
end

section
namespace Go.Proofs.YtokdnhdfmgfkeaaGreatDoor.Xl
open Go.RowKit UtfW

theorem results_cell_one {fn : Func} {p : Tmp} {ty : TypeId} (h : fn.results = #[.cell p ty]) (tmps : Array Value) (P : Program) (w : World) :
    (results fn tmps).run P w = ((asAddr (tmps.getD p undef)).run P w).andThen fun a w1 => (loadVar ty a).run P w1 := by
  simp only [results, h]
  simp [Sem.run_bind, Result.andThen]

def Ab (w : World) (b : Nat) (nm v : ByteArray) : Prop := w.heap[b]? = some (.cells #[.string nm, .string v] 55)
def Tb (w : World) (b : Nat) (kd at_ : Int) (nm tx : ByteArray) (va : Value) : Prop := w.heap[b]? = some (.cells #[.int .i64 kd, .int .i64 at_, .string nm, .string tx, va] 87)

section
variable {w w' : World} {b : Nat} {nm v nm' v' tx tx' : ByteArray} {kd at_ kd' at' : Int} {va va' : Value}
theorem Ab.lt (h : Ab w b nm v) : b < w.heap.size := (Array.getElem?_eq_some_iff.1 h).1
theorem Ab.frozen (h : Ab w b nm v) (i : Nat) : w.frozen? ⟨b, i, none⟩ = false := frozen_of_row w b i _ _ h
theorem Ab.c0 (h : Ab w b nm v) : w.cell? ⟨b, 0, none⟩ = some (.string nm) := by unfold Ab at h; simp [World.cell?, h]
theorem Ab.c1 (h : Ab w b nm v) : w.cell? ⟨b, 1, none⟩ = some (.string v) := by unfold Ab at h; simp [World.cell?, h]
theorem Ab.on {row : Nat} (h : Ab w b nm v) (hg : w.grownBy w' (some row)) (hne : b ≠ row) : Ab w' b nm v := (hg.block b h.lt (by simpa using hne)).trans h
theorem Ab.below (h : Ab w b nm v) (hb : Below w.heap.size w w') : Ab w' b nm v := (hb.block b h.lt).trans h
theorem ab_new (w : World) (nm v : ByteArray) : Ab (w.alloc (.cells #[.string nm, .string v] 55)) w.heap.size nm v := heap_alloc_new w _
theorem ab_set (h : Ab w b nm v) : Ab ((w.setCell ⟨b, 0, none⟩ (.string nm')).setCell ⟨b, 1, none⟩ (.string v')) b nm' v' := blk_setCell (blk_setCell h (i := 0) _) (i := 1) _
theorem load_ab (h : Ab w b nm v) : (loadVar 55 ⟨b, 0, none⟩).run Tryz.prog w = .ok (.agg #[.string nm, .string v]) w :=
  run_loadVar_row w b _ _ _ _ _ h Tryz.underlying55 rfl (by kernel_rfl)
theorem res_ab {fn : Func} {p : Tmp} (hf : fn.results = #[.cell p 55]) {tmps : Array Value} (h : Ab w b nm v) (hp : tmps.getD p undef = .pointer (some ⟨b, 0, none⟩)) :
    (results fn tmps).run Tryz.prog w = .ok (.agg #[.string nm, .string v]) w := by
  rw [results_cell_one hf, hp]
  simp [asAddr, Result.andThen, load_ab h]

theorem Tb.lt (h : Tb w b kd at_ nm tx va) : b < w.heap.size := (Array.getElem?_eq_some_iff.1 h).1
theorem Tb.frozen (h : Tb w b kd at_ nm tx va) (i : Nat) : w.frozen? ⟨b, i, none⟩ = false := frozen_of_row w b i _ _ h
theorem Tb.cell (h : Tb w b kd at_ nm tx va) (i : Nat) : w.cell? ⟨b, i, none⟩ = (#[.int .i64 kd, .int .i64 at_, .string nm, .string tx, va] : Array Value)[i]? := by unfold Tb at h; simp [World.cell?, h]
theorem Tb.on {row : Nat} (h : Tb w b kd at_ nm tx va) (hg : w.grownBy w' (some row)) (hne : b ≠ row) : Tb w' b kd at_ nm tx va := (hg.block b h.lt (by simpa using hne)).trans h
theorem Tb.below (h : Tb w b kd at_ nm tx va) (hb : Below w.heap.size w w') : Tb w' b kd at_ nm tx va := (hb.block b h.lt).trans h
theorem tb_new (w : World) (kd at_ : Int) (nm tx : ByteArray) (va : Value) : Tb (w.alloc (.cells #[.int .i64 kd, .int .i64 at_, .string nm, .string tx, va] 87)) w.heap.size kd at_ nm tx va := heap_alloc_new w _
theorem tb_set (h : Tb w b kd at_ nm tx va) : Tb (((((w.setCell ⟨b, 0, none⟩ (.int .i64 kd')).setCell ⟨b, 1, none⟩ (.int .i64 at')).setCell ⟨b, 2, none⟩ (.string nm')).setCell ⟨b, 3, none⟩ (.string tx')).setCell ⟨b, 4, none⟩ va') b kd' at' nm' tx' va' :=
  blk_setCell (blk_setCell (blk_setCell (blk_setCell (blk_setCell h (i := 0) _) (i := 1) _) (i := 2) _) (i := 3) _) (i := 4) _
theorem tb_set0 (h : Tb w b kd at_ nm tx va) : Tb (w.setCell ⟨b, 0, none⟩ (.int .i64 kd')) b kd' at_ nm tx va := blk_setCell h (i := 0) _
theorem tb_set2 (h : Tb w b kd at_ nm tx va) : Tb (w.setCell ⟨b, 2, none⟩ (.string nm')) b kd at_ nm' tx va := blk_setCell h (i := 2) _
theorem tb_set3 (h : Tb w b kd at_ nm tx va) : Tb (w.setCell ⟨b, 3, none⟩ (.string tx')) b kd at_ nm tx' va := blk_setCell h (i := 3) _
theorem tb_set4 (h : Tb w b kd at_ nm tx va) : Tb (w.setCell ⟨b, 4, none⟩ va') b kd at_ nm tx va' := blk_setCell h (i := 4) _
theorem load_tb (h : Tb w b kd at_ nm tx va) : (loadVar 87 ⟨b, 0, none⟩).run Tryz.prog w = .ok (.agg #[.int .i64 kd, .int .i64 at_, .string nm, .string tx, va]) w :=
  run_loadVar_row w b _ _ _ _ _ h Tryz.underlying87 rfl (by kernel_rfl)
theorem res_tb {fn : Func} {p : Tmp} (hf : fn.results = #[.cell p 87]) {tmps : Array Value} (h : Tb w b kd at_ nm tx va) (hp : tmps.getD p undef = .pointer (some ⟨b, 0, none⟩)) :
    (results fn tmps).run Tryz.prog w = .ok (.agg #[.int .i64 kd, .int .i64 at_, .string nm, .string tx, va]) w := by
  rw [results_cell_one hf, hp]
  simp [asAddr, Result.andThen, load_tb h]
end
def AtEl (_ : World) (vs : List Value) (a : At) : Prop := vs = [.string (strOf a.1), .string (strOf a.2)]
theorem AtEl.to {w w' : World} : ∀ vs a, AtEl w vs a → AtEl w' vs a := fun _ _ h => h
end Go.Proofs.YtokdnhdfmgfkeaaGreatDoor.Xl
end
