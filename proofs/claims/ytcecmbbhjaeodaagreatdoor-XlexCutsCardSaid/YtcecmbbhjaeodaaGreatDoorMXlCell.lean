/- Attributes and tokens in cells of their own; results that are structs. -/
import Derived.Test.YtcecmbbhjaeodaaGreatDoorMXlSc
import Derived.Test.YtcecmbbhjaeodaaGreatDoorMRowS
import Derived.Laws.ResultCell
namespace Go.Proofs.YtcecmbbhjaeodaaGreatDoor.Xl
open Go.RowKit UtfW

/-- A result that is one cell. -/
theorem results_cell_one {fn : Func} {p : Tmp} {ty : TypeId} (h : fn.results = #[.cell p ty]) (tmps : Array Value) (P : Program) (w : World) :
    (results fn tmps).run P w = ((asAddr (tmps.getD p undef)).run P w).andThen fun a w1 => (loadVar ty a).run P w1 := by
  simp only [results, h]
  simp [Sem.run_bind, Result.andThen]

/-- An attribute's block. -/
def Ab (w : World) (b : Nat) (nm v : ByteArray) : Prop := w.heap[b]? = some (.cells #[.string nm, .string v] 43)
/-- A token's block. -/
def Tb (w : World) (b : Nat) (kd at_ : Int) (nm tx : ByteArray) (va : Value) : Prop := w.heap[b]? = some (.cells #[.int .i64 kd, .int .i64 at_, .string nm, .string tx, va] 39)

section
variable {w w' : World} {b : Nat} {nm v nm' v' tx tx' : ByteArray} {kd at_ kd' at' : Int} {va va' : Value}
theorem Ab.lt (h : Ab w b nm v) : b < w.heap.size := (Array.getElem?_eq_some_iff.1 h).1
theorem Ab.frozen (h : Ab w b nm v) (i : Nat) : w.frozen? ⟨b, i, none⟩ = false := frozen_of_row w b i _ _ h
theorem Ab.c0 (h : Ab w b nm v) : w.cell? ⟨b, 0, none⟩ = some (.string nm) := by unfold Ab at h; simp [World.cell?, h]
theorem Ab.c1 (h : Ab w b nm v) : w.cell? ⟨b, 1, none⟩ = some (.string v) := by unfold Ab at h; simp [World.cell?, h]
theorem Ab.on {row : Nat} (h : Ab w b nm v) (hg : w.grownBy w' (some row)) (hne : b ≠ row) : Ab w' b nm v := (hg.block b h.lt (by simpa using hne)).trans h
theorem Ab.below (h : Ab w b nm v) (hb : Below w.heap.size w w') : Ab w' b nm v := (hb.block b h.lt).trans h
theorem ab_new (w : World) (nm v : ByteArray) : Ab (w.alloc (.cells #[.string nm, .string v] 43)) w.heap.size nm v := heap_alloc_new w _
theorem ab_set (h : Ab w b nm v) : Ab ((w.setCell ⟨b, 0, none⟩ (.string nm')).setCell ⟨b, 1, none⟩ (.string v')) b nm' v' := blk_setCell (blk_setCell h (i := 0) _) (i := 1) _
theorem ab_set1 (h : Ab w b nm v) : Ab (w.setCell ⟨b, 1, none⟩ (.string v')) b nm v' := blk_setCell h (i := 1) _
theorem load_ab (h : Ab w b nm v) : (loadVar 43 ⟨b, 0, none⟩).run Tryz.prog w = .ok (.agg #[.string nm, .string v]) w :=
  run_loadVar_row w b _ _ _ _ _ h Tryz.underlying43 rfl (by kernel_rfl)
theorem res_ab {fn : Func} {p : Tmp} (hf : fn.results = #[.cell p 43]) {tmps : Array Value} (h : Ab w b nm v) (hp : tmps.getD p undef = .pointer (some ⟨b, 0, none⟩)) :
    (results fn tmps).run Tryz.prog w = .ok (.agg #[.string nm, .string v]) w := by
  rw [results_cell_one hf, hp]
  simp [asAddr, Result.andThen, load_ab h]

theorem Tb.lt (h : Tb w b kd at_ nm tx va) : b < w.heap.size := (Array.getElem?_eq_some_iff.1 h).1
theorem Tb.frozen (h : Tb w b kd at_ nm tx va) (i : Nat) : w.frozen? ⟨b, i, none⟩ = false := frozen_of_row w b i _ _ h
theorem Tb.cell (h : Tb w b kd at_ nm tx va) (i : Nat) : w.cell? ⟨b, i, none⟩ = (#[.int .i64 kd, .int .i64 at_, .string nm, .string tx, va] : Array Value)[i]? := by unfold Tb at h; simp [World.cell?, h]
theorem Tb.on {row : Nat} (h : Tb w b kd at_ nm tx va) (hg : w.grownBy w' (some row)) (hne : b ≠ row) : Tb w' b kd at_ nm tx va := (hg.block b h.lt (by simpa using hne)).trans h
theorem Tb.below (h : Tb w b kd at_ nm tx va) (hb : Below w.heap.size w w') : Tb w' b kd at_ nm tx va := (hb.block b h.lt).trans h
theorem tb_new (w : World) (kd at_ : Int) (nm tx : ByteArray) (va : Value) : Tb (w.alloc (.cells #[.int .i64 kd, .int .i64 at_, .string nm, .string tx, va] 39)) w.heap.size kd at_ nm tx va := heap_alloc_new w _
theorem tb_set (h : Tb w b kd at_ nm tx va) : Tb (((((w.setCell ⟨b, 0, none⟩ (.int .i64 kd')).setCell ⟨b, 1, none⟩ (.int .i64 at')).setCell ⟨b, 2, none⟩ (.string nm')).setCell ⟨b, 3, none⟩ (.string tx')).setCell ⟨b, 4, none⟩ va') b kd' at' nm' tx' va' :=
  blk_setCell (blk_setCell (blk_setCell (blk_setCell (blk_setCell h (i := 0) _) (i := 1) _) (i := 2) _) (i := 3) _) (i := 4) _
theorem tb_set0 (h : Tb w b kd at_ nm tx va) : Tb (w.setCell ⟨b, 0, none⟩ (.int .i64 kd')) b kd' at_ nm tx va := blk_setCell h (i := 0) _
theorem tb_set2 (h : Tb w b kd at_ nm tx va) : Tb (w.setCell ⟨b, 2, none⟩ (.string nm')) b kd at_ nm' tx va := blk_setCell h (i := 2) _
theorem tb_set3 (h : Tb w b kd at_ nm tx va) : Tb (w.setCell ⟨b, 3, none⟩ (.string tx')) b kd at_ nm tx' va := blk_setCell h (i := 3) _
theorem tb_set4 (h : Tb w b kd at_ nm tx va) : Tb (w.setCell ⟨b, 4, none⟩ va') b kd at_ nm tx va' := blk_setCell h (i := 4) _
theorem load_tb (h : Tb w b kd at_ nm tx va) : (loadVar 39 ⟨b, 0, none⟩).run Tryz.prog w = .ok (.agg #[.int .i64 kd, .int .i64 at_, .string nm, .string tx, va]) w :=
  run_loadVar_row w b _ _ _ _ _ h Tryz.underlying39 rfl (by kernel_rfl)
theorem res_tb {fn : Func} {p : Tmp} (hf : fn.results = #[.cell p 39]) {tmps : Array Value} (h : Tb w b kd at_ nm tx va) (hp : tmps.getD p undef = .pointer (some ⟨b, 0, none⟩)) :
    (results fn tmps).run Tryz.prog w = .ok (.agg #[.int .i64 kd, .int .i64 at_, .string nm, .string tx, va]) w := by
  rw [results_cell_one hf, hp]
  simp [asAddr, Result.andThen, load_tb h]
end
/-- The cells of an attribute. -/
def AtEl (_ : World) (vs : List Value) (a : At) : Prop := vs = [.string (strOf a.1), .string (strOf a.2)]
theorem AtEl.to {w w' : World} : ∀ vs a, AtEl w vs a → AtEl w' vs a := fun _ _ h => h
end Go.Proofs.YtcecmbbhjaeodaaGreatDoor.Xl
