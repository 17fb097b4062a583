/- errors.as, the target **fault.wrapped. -/
import Derived.Test.YthkimdjkpfpmaaaDoorErrAs
namespace Go.Proofs.YthkimdjkpfpmaaaDoor.Er
open Go.RowKit Go.Extern.Stop Go.Stop Go.Extern

theorem frozen_set (w : World) (a b : Addr) (v : Value) : (w.setCell a v).frozen? b = w.frozen? b := by
  unfold World.frozen? World.setCell
  by_cases h : a.block = b.block
  · simp only [Array.getElem?_modify, h, if_true]
    cases w.heap[b.block]? with
    | none => rfl
    | some o => cases o <;> rfl
  · simp only [Array.getElem?_modify, h, if_false]

set_option maxHeartbeats 4000000 in
/-- errors.as, the target **fault.wrapped, at a wrapped error. -/
theorem as_wr (p t a : Addr) (old : Value) (B : Nat) (w : World) (ht0 : w.cell? t = some old) (hf0 : w.frozen? t = false) (hB : B ≤ t.block) (ha : w.cell? a = some (.pointer (some t))) :
    Calls Tryd.prog 24 #[.iface 39 (.pointer (some p)), .iface 43 (.pointer (some t)), .agg #[.pointer (some ⟨4, 43, none⟩), .pointer (some a), .int .u64 150], .iface 67 (.agg #[.pointer (some ⟨4, 39, none⟩)])] w
      fun ev w' => ev = .returned (.bool true) ∧ w'.cell? t = some (.pointer (some p)) ∧ w'.frozen? t = false ∧ Below B w w' := by
  have x21 := @run_callFunc_extern Tryd.prog 21 _ (fun args => ReflectliteValue.unpack (args.getD 0 (.tuple #[]))) Tryd.func21 (by kernel_rfl) (by kernel_rfl) (by kernel_rfl) (by kernel_rfl)
  have x26 := @run_callFunc_extern Tryd.prog 26 _ ReflectliteType.typeOf Tryd.func26 (by kernel_rfl) (by kernel_rfl) (by kernel_rfl) (by kernel_rfl)
  have x67 := @run_callFunc_extern Tryd.prog 67 _ (ReflectliteType.relation "AssignableTo" ReflectliteType.assignableTo) Tryd.func67 (by kernel_rfl) (by kernel_rfl) (by kernel_rfl) (by kernel_rfl)
  have x28 := @run_callFunc_extern Tryd.prog 28 _ (ReflectliteValue.method (ReflectliteValue.valueError "reflectlite.Value.Elem" 0) ReflectliteValue.elem) Tryd.func28 (by kernel_rfl) (by kernel_rfl) (by kernel_rfl) (by kernel_rfl)
  have x29 := @run_callFunc_extern Tryd.prog 29 _ ReflectliteValue.set Tryd.func29 (by kernel_rfl) (by kernel_rfl) (by kernel_rfl) (by kernel_rfl)
  have t2 := typeOfWr
  have t3 := methodAssignableTo
  have t5 := assignableWrWr
  have t9 := valueOfWr
  have htl : t.block < w.heap.size := by
    rcases Nat.lt_or_ge t.block w.heap.size with h | h
    · exact h
    · simp [World.cell?, Array.getElem?_eq_none h] at ht0
  have hal : a.block < w.heap.size := by
    rcases Nat.lt_or_ge a.block w.heap.size with h | h
    · exact h
    · simp [World.cell?, Array.getElem?_eq_none h] at ha
  have el := elemVWrWr a t (w.alloc (.cells #[.pointer (some ⟨4, 43, none⟩), .pointer (some a), .int .u64 150] 54)) (by rw [World.cell?_alloc_lt _ _ a hal]; exact ha)
  have st := setWr t ⟨w.heap.size + 1, 0, none⟩ p old ((w.alloc (.cells #[.pointer (some ⟨4, 43, none⟩), .pointer (some a), .int .u64 150] 54)).alloc (.cells #[.pointer (some p)] 39))
    (by rw [World.cell?_alloc_at _ _ _ _ (by simp)]; rfl)
    (by rw [World.cell?_alloc_lt _ _ t (by simp; omega), World.cell?_alloc_lt _ _ t htl]; exact ht0)
    (by rw [World.frozen?_alloc_old _ _ t (by simp; omega), World.frozen?_alloc_old _ _ t (Nat.ne_of_lt htl)]; exact hf0)
  go_enter Tryd.func24, Tryd.ntmps24
  go_wp2_with fail
  refine wp_loop_rounds 1 ?_
  rw [rounds_succ]
  go_wp2
  go_ret
  refine ⟨rfl, ?_, ?_, ?_⟩
  · exact World.cell?_setCell_same _ t _ (show World.cell? _ t = some old from by rw [World.cell?_alloc_lt _ _ t (by simp; omega), World.cell?_alloc_lt _ _ t htl]; exact ht0)
  · rw [frozen_set]
    rw [World.frozen?_alloc_old _ _ t (by simp; omega), World.frozen?_alloc_old _ _ t (Nat.ne_of_lt htl)]; exact hf0
  · exact (((Below.refl B w).alloc (by omega) _).alloc (by simp; omega) _).setCell hB _

set_option maxHeartbeats 4000000 in
/-- errors.as, the target **fault.wrapped, at a plain error: none. -/
theorem as_wr_none (p t a : Addr) (w : World) :
    Calls Tryd.prog 24 #[.iface 44 (.pointer (some p)), .iface 43 (.pointer (some t)), .agg #[.pointer (some ⟨4, 43, none⟩), .pointer (some a), .int .u64 150], .iface 67 (.agg #[.pointer (some ⟨4, 39, none⟩)])] w
      fun ev w' => ev = .returned (.bool false) ∧ Below w.heap.size w w' := by
  have x26 := @run_callFunc_extern Tryd.prog 26 _ ReflectliteType.typeOf Tryd.func26 (by kernel_rfl) (by kernel_rfl) (by kernel_rfl) (by kernel_rfl)
  have x67 := @run_callFunc_extern Tryd.prog 67 _ (ReflectliteType.relation "AssignableTo" ReflectliteType.assignableTo) Tryd.func67 (by kernel_rfl) (by kernel_rfl) (by kernel_rfl) (by kernel_rfl)
  have t1 := typeOfPl
  have t3 := methodAssignableTo
  have t5 := assignablePlWr
  have t6 := taPlAs
  have t7 := taPlUn
  have t8 := taPlUs
  go_enter Tryd.func24, Tryd.ntmps24
  go_wp2_with fail
  refine wp_loop_rounds 1 ?_
  rw [rounds_succ]
  go_wp2
  go_ret
  exact ⟨rfl, (Below.refl _ w).alloc (Nat.le_refl _) _⟩
end Go.Proofs.YthkimdjkpfpmaaaDoor.Er
