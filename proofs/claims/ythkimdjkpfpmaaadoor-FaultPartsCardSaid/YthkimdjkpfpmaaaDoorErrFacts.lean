/- Closed facts on the model's entries for internal/reflectlite, at the types of fault's errors. Printed by err_facts.py. -/
import Derived.Test.YthkimdjkpfpmaaaDoorProg
import Derived.WalkKit
import Derived.LaidEql
import Derived.Stop.Asserts
import Derived.RowKitTokens
namespace Go.Proofs.YthkimdjkpfpmaaaDoor.Er
open Go.RowKit Go.Extern.Stop Go.Stop Go.Extern

theorem valueOfPlPl (t : Addr) (w : World) : (ReflectliteValue.unpack (.iface 45 (.pointer (some t)))).run Tryd.prog w
    = .ok (.agg #[.pointer (some ⟨4, 45, none⟩), .pointer (some ⟨w.heap.size, 0, none⟩), .int .u64 150]) (w.alloc (.cells #[.pointer (some t)] 45)) := by kernel_rfl
theorem typePlPl (a : Addr) (w : World) : (ReflectliteValue.methodAny (ReflectliteValue.valueError "reflectlite.Value.Type" 0) (fun t _ _ _ => ReflectliteType.toType t) #[.agg #[.pointer (some ⟨4, 45, none⟩), .pointer (some a), .int .u64 150]]).run Tryd.prog w
    = .ok (.iface 67 (.agg #[.pointer (some ⟨4, 45, none⟩)])) w := by kernel_rfl
theorem kindPlPl (w : World) : ((ReflectliteType.abiMethod fun t => (fun a : Nat => Value.int IntKind.u8 (a : Int)) <$> Rtype.kind t) #[.pointer (some ⟨4, 45, none⟩)]).run Tryd.prog w = .ok (.int .u8 22) w := by kernel_rfl
theorem kindPl (w : World) : ((ReflectliteType.abiMethod fun t => (fun a : Nat => Value.int IntKind.u8 (a : Int)) <$> Rtype.kind t) #[.pointer (some ⟨4, 44, none⟩)]).run Tryd.prog w = .ok (.int .u8 22) w := by kernel_rfl
theorem elemPlPl (w : World) : (ReflectliteType.method ReflectliteType.elem #[.agg #[.pointer (some ⟨4, 45, none⟩)]]).run Tryd.prog w = .ok (.iface 67 (.agg #[.pointer (some ⟨4, 44, none⟩)])) w := by kernel_rfl
theorem implementsPl (w : World) : (ReflectliteType.relation "Implements" ReflectliteType.implements_ #[.agg #[.pointer (some ⟨4, 44, none⟩)], .iface 67 (.agg #[.pointer (some ⟨4, 26, none⟩)])]).run Tryd.prog w = .ok (.bool true) w := by kernel_rfl
theorem typeOfPl (v : Value) (w : World) : (ReflectliteType.typeOf #[.iface 44 v]).run Tryd.prog w = .ok (.iface 67 (.agg #[.pointer (some ⟨4, 44, none⟩)])) w := by kernel_rfl
theorem valueOfPl (e : Addr) (w : World) : (ReflectliteValue.unpack (.iface 44 (.pointer (some e)))).run Tryd.prog w
    = .ok (.agg #[.pointer (some ⟨4, 44, none⟩), .pointer (some ⟨w.heap.size, 0, none⟩), .int .u64 150]) (w.alloc (.cells #[.pointer (some e)] 44)) := by kernel_rfl
theorem partsPlPl (a : Addr) (w : World) : (ReflectliteValue.parts (.agg #[.pointer (some ⟨4, 45, none⟩), .pointer (some a), .int .u64 150])).run Tryd.prog w = .ok (some (45, a, 150)) w := by kernel_rfl
theorem elemOfPlPl (w : World) : (Rtype.elem? 45).run Tryd.prog w = .ok (some 44) w := by kernel_rfl
theorem mkPl (p : Addr) (w : World) : (ReflectliteValue.mk 44 p ReflectliteValue.flagAddr).run Tryd.prog w = .ok (.agg #[.pointer (some ⟨4, 44, none⟩), .pointer (some p), .int .u64 406]) w := by kernel_rfl
theorem partsPla (a : Addr) (w : World) : (ReflectliteValue.parts (.agg #[.pointer (some ⟨4, 44, none⟩), .pointer (some a), .int .u64 406])).run Tryd.prog w = .ok (some (44, a, 406)) w := by kernel_rfl
theorem partsPl (a : Addr) (w : World) : (ReflectliteValue.parts (.agg #[.pointer (some ⟨4, 44, none⟩), .pointer (some a), .int .u64 150])).run Tryd.prog w = .ok (some (44, a, 150)) w := by kernel_rfl
theorem directPl (w : World) : (Rtype.directlyAssignable 44 44).run Tryd.prog w = .ok true w := by kernel_rfl

theorem assignablePlPl (w : World) : (ReflectliteType.relation "AssignableTo" ReflectliteType.assignableTo #[.agg #[.pointer (some ⟨4, 44, none⟩)], .iface 67 (.agg #[.pointer (some ⟨4, 44, none⟩)])]).run Tryd.prog w = .ok (.bool true) w := by kernel_rfl
theorem assignablePlWr (w : World) : (ReflectliteType.relation "AssignableTo" ReflectliteType.assignableTo #[.agg #[.pointer (some ⟨4, 44, none⟩)], .iface 67 (.agg #[.pointer (some ⟨4, 39, none⟩)])]).run Tryd.prog w = .ok (.bool false) w := by kernel_rfl
theorem valueOfWrWr (t : Addr) (w : World) : (ReflectliteValue.unpack (.iface 43 (.pointer (some t)))).run Tryd.prog w
    = .ok (.agg #[.pointer (some ⟨4, 43, none⟩), .pointer (some ⟨w.heap.size, 0, none⟩), .int .u64 150]) (w.alloc (.cells #[.pointer (some t)] 43)) := by kernel_rfl
theorem typeWrWr (a : Addr) (w : World) : (ReflectliteValue.methodAny (ReflectliteValue.valueError "reflectlite.Value.Type" 0) (fun t _ _ _ => ReflectliteType.toType t) #[.agg #[.pointer (some ⟨4, 43, none⟩), .pointer (some a), .int .u64 150]]).run Tryd.prog w
    = .ok (.iface 67 (.agg #[.pointer (some ⟨4, 43, none⟩)])) w := by kernel_rfl
theorem kindWrWr (w : World) : ((ReflectliteType.abiMethod fun t => (fun a : Nat => Value.int IntKind.u8 (a : Int)) <$> Rtype.kind t) #[.pointer (some ⟨4, 43, none⟩)]).run Tryd.prog w = .ok (.int .u8 22) w := by kernel_rfl
theorem kindWr (w : World) : ((ReflectliteType.abiMethod fun t => (fun a : Nat => Value.int IntKind.u8 (a : Int)) <$> Rtype.kind t) #[.pointer (some ⟨4, 39, none⟩)]).run Tryd.prog w = .ok (.int .u8 22) w := by kernel_rfl
theorem elemWrWr (w : World) : (ReflectliteType.method ReflectliteType.elem #[.agg #[.pointer (some ⟨4, 43, none⟩)]]).run Tryd.prog w = .ok (.iface 67 (.agg #[.pointer (some ⟨4, 39, none⟩)])) w := by kernel_rfl
theorem implementsWr (w : World) : (ReflectliteType.relation "Implements" ReflectliteType.implements_ #[.agg #[.pointer (some ⟨4, 39, none⟩)], .iface 67 (.agg #[.pointer (some ⟨4, 26, none⟩)])]).run Tryd.prog w = .ok (.bool true) w := by kernel_rfl
theorem typeOfWr (v : Value) (w : World) : (ReflectliteType.typeOf #[.iface 39 v]).run Tryd.prog w = .ok (.iface 67 (.agg #[.pointer (some ⟨4, 39, none⟩)])) w := by kernel_rfl
theorem valueOfWr (e : Addr) (w : World) : (ReflectliteValue.unpack (.iface 39 (.pointer (some e)))).run Tryd.prog w
    = .ok (.agg #[.pointer (some ⟨4, 39, none⟩), .pointer (some ⟨w.heap.size, 0, none⟩), .int .u64 150]) (w.alloc (.cells #[.pointer (some e)] 39)) := by kernel_rfl
theorem partsWrWr (a : Addr) (w : World) : (ReflectliteValue.parts (.agg #[.pointer (some ⟨4, 43, none⟩), .pointer (some a), .int .u64 150])).run Tryd.prog w = .ok (some (43, a, 150)) w := by kernel_rfl
theorem elemOfWrWr (w : World) : (Rtype.elem? 43).run Tryd.prog w = .ok (some 39) w := by kernel_rfl
theorem mkWr (p : Addr) (w : World) : (ReflectliteValue.mk 39 p ReflectliteValue.flagAddr).run Tryd.prog w = .ok (.agg #[.pointer (some ⟨4, 39, none⟩), .pointer (some p), .int .u64 406]) w := by kernel_rfl
theorem partsWra (a : Addr) (w : World) : (ReflectliteValue.parts (.agg #[.pointer (some ⟨4, 39, none⟩), .pointer (some a), .int .u64 406])).run Tryd.prog w = .ok (some (39, a, 406)) w := by kernel_rfl
theorem partsWr (a : Addr) (w : World) : (ReflectliteValue.parts (.agg #[.pointer (some ⟨4, 39, none⟩), .pointer (some a), .int .u64 150])).run Tryd.prog w = .ok (some (39, a, 150)) w := by kernel_rfl
theorem directWr (w : World) : (Rtype.directlyAssignable 39 39).run Tryd.prog w = .ok true w := by kernel_rfl

theorem assignableWrPl (w : World) : (ReflectliteType.relation "AssignableTo" ReflectliteType.assignableTo #[.agg #[.pointer (some ⟨4, 39, none⟩)], .iface 67 (.agg #[.pointer (some ⟨4, 44, none⟩)])]).run Tryd.prog w = .ok (.bool false) w := by kernel_rfl
theorem assignableWrWr (w : World) : (ReflectliteType.relation "AssignableTo" ReflectliteType.assignableTo #[.agg #[.pointer (some ⟨4, 39, none⟩)], .iface 67 (.agg #[.pointer (some ⟨4, 39, none⟩)])]).run Tryd.prog w = .ok (.bool true) w := by kernel_rfl
theorem methodKind (h : Value) (w : World) : (Go.method 229 67 (.agg #[h]) "Kind").run Tryd.prog w = .ok (57, h) w := by kernel_rfl
theorem methodElem (h : Value) (w : World) : (Go.method 229 67 (.agg #[h]) "Elem").run Tryd.prog w = .ok (69, .agg #[h]) w := by kernel_rfl
theorem methodImplements (h : Value) (w : World) : (Go.method 229 67 (.agg #[h]) "Implements").run Tryd.prog w = .ok (70, .agg #[h]) w := by kernel_rfl
theorem methodAssignableTo (h : Value) (w : World) : (Go.method 229 67 (.agg #[h]) "AssignableTo").run Tryd.prog w = .ok (67, .agg #[h]) w := by kernel_rfl
theorem methodComparable (v : Value) (w : World) : (Go.method 229 67 v "Comparable").run Tryd.prog w = .ok (68, v) w := by kernel_rfl
theorem isComparable (w : World) : ((ReflectliteType.method fun t => (fun a => Value.bool a.comparable) <$> typeInfo t) #[.agg #[.pointer (some ⟨4, 44, none⟩)]]).run Tryd.prog w = .ok (.bool true) w := by kernel_rfl
theorem methodUnwrap (a : Addr) (w : World) : (Go.method 229 39 (.pointer (some a)) "Unwrap").run Tryd.prog w = .ok (61, .pointer (some a)) w := by kernel_rfl
theorem methodIs (a : Addr) (w : World) : (Go.method 229 44 (.pointer (some a)) "Is").run Tryd.prog w = .ok (62, .pointer (some a)) w := by kernel_rfl
theorem taPlAs (v : Value) (w : World) : (Instr.typeAssert (.iface 44 v) 26 71 true).run Tryd.prog w = .ok (.tuple #[.nilIface, .bool false]) w := run_typeAssert_lacksB Tryd.underlying71 (by kernel_rfl) (by kernel_rfl) v 26 w
theorem taWrAs (v : Value) (w : World) : (Instr.typeAssert (.iface 39 v) 26 71 true).run Tryd.prog w = .ok (.tuple #[.nilIface, .bool false]) w := run_typeAssert_lacksB Tryd.underlying71 (by kernel_rfl) (by kernel_rfl) v 26 w
theorem taPlUn (v : Value) (w : World) : (Instr.typeAssert (.iface 44 v) 26 74 true).run Tryd.prog w = .ok (.tuple #[.nilIface, .bool false]) w := run_typeAssert_lacksB Tryd.underlying74 (by kernel_rfl) (by kernel_rfl) v 26 w
theorem taWrUn (v : Value) (w : World) : (Instr.typeAssert (.iface 39 v) 26 74 true).run Tryd.prog w = .ok (.tuple #[.iface 39 v, .bool true]) w := run_typeAssert_hasB Tryd.underlying74 (by kernel_rfl) v 26 w
theorem taPlUs (v : Value) (w : World) : (Instr.typeAssert (.iface 44 v) 26 76 true).run Tryd.prog w = .ok (.tuple #[.nilIface, .bool false]) w := run_typeAssert_lacksB Tryd.underlying76 (by kernel_rfl) (by kernel_rfl) v 26 w
theorem taPlIs (v : Value) (w : World) : (Instr.typeAssert (.iface 44 v) 26 79 true).run Tryd.prog w = .ok (.tuple #[.iface 44 v, .bool true]) w := run_typeAssert_hasB Tryd.underlying79 (by kernel_rfl) v 26 w
theorem taWrIs (v : Value) (w : World) : (Instr.typeAssert (.iface 39 v) 26 79 true).run Tryd.prog w = .ok (.tuple #[.nilIface, .bool false]) w := run_typeAssert_lacksB Tryd.underlying79 (by kernel_rfl) (by kernel_rfl) v 26 w

theorem rlm (z : Sem Value) (f : TypeId → Addr → Nat → Nat → Sem Value) (v : Value) :
    ReflectliteValue.method z f #[v] = (do match ← ReflectliteValue.parts v with | none => z | some (t, a, fl) => f t a fl (fl % 32)) := rfl
theorem rls (v x : Value) : ReflectliteValue.set #[v, x] = (do
    let (some (dst, a, fl), some (src, b, _)) := (← ReflectliteValue.parts v, ← ReflectliteValue.parts x)
      | unsupported (.noEntry "extern/(internal/reflectlite.Value).Set.zeroValue")
    if fl / ReflectliteValue.flagAddr % 2 == 0 then unsupported (.noEntry "extern/(internal/reflectlite.Value).Set.unaddressable")
    let val ← loadVar src b
    if ← Rtype.directlyAssignable dst src then storeVar dst a val
    else if ← Rtype.implements dst src then
      if (← Rtype.kind src) == 20 then
        match val with
        | .nilIface => unsupported (.noEntry "extern/reflectlite: a nil value of one interface type handed on as a value of another")
        | _ => storeVar dst a val
      else storeVar dst a (.iface src val)
    else panicString ("reflectlite.Set: value of type " ++ (← Rtype.spelt src) ++ " is not assignable to type " ++ (← Rtype.spelt dst))
    pure (.tuple #[])) := rfl

theorem isNilPlPl (a p : Addr) (W : World) (ha : W.cell? a = some (.pointer (some p))) :
    (ReflectliteValue.method (ReflectliteValue.valueError "reflectlite.Value.IsNil" 0) ReflectliteValue.isNil #[.agg #[.pointer (some ⟨4, 45, none⟩), .pointer (some a), .int .u64 150]]).run Tryd.prog W = .ok (.bool false) W := by
  rw [rlm]
  simp only [Sem.run_bind, partsPlPl, Result.andThen]
  simp [ReflectliteValue.isNil, loadVar, isAgg, underlying, Tryd.underlying45, ha, Result.andThen]
theorem elemVPlPl (a p : Addr) (W : World) (ha : W.cell? a = some (.pointer (some p))) :
    (ReflectliteValue.method (ReflectliteValue.valueError "reflectlite.Value.Elem" 0) ReflectliteValue.elem #[.agg #[.pointer (some ⟨4, 45, none⟩), .pointer (some a), .int .u64 150]]).run Tryd.prog W
      = .ok (.agg #[.pointer (some ⟨4, 44, none⟩), .pointer (some p), .int .u64 406]) W := by
  rw [rlm]
  simp only [Sem.run_bind, partsPlPl, Result.andThen]
  simp [ReflectliteValue.elem, loadVar, isAgg, underlying, Tryd.underlying45, ha, Result.andThen, elemOfPlPl, mkPl]
theorem setPl (ta b e : Addr) (old : Value) (W : World) (hb : W.cell? b = some (.pointer (some e))) (ht : W.cell? ta = some old) (hf : W.frozen? ta = false) :
    (ReflectliteValue.set #[.agg #[.pointer (some ⟨4, 44, none⟩), .pointer (some ta), .int .u64 406], .agg #[.pointer (some ⟨4, 44, none⟩), .pointer (some b), .int .u64 150]]).run Tryd.prog W
      = .ok (.tuple #[]) (W.setCell ta (.pointer (some e))) := by
  rw [rls]
  simp only [Sem.run_bind, partsPla, partsPl, Result.andThen]
  simp [ReflectliteValue.flagAddr, loadVar, isAgg, underlying, Tryd.underlying44, hb, Result.andThen, directPl, storeVar, Value.cells, storeCells, Addr.add]
  rw [run_store Tryd.prog W ta _ _ (by rfl)]
  simp [ht, hf]

theorem isNilWrWr (a p : Addr) (W : World) (ha : W.cell? a = some (.pointer (some p))) :
    (ReflectliteValue.method (ReflectliteValue.valueError "reflectlite.Value.IsNil" 0) ReflectliteValue.isNil #[.agg #[.pointer (some ⟨4, 43, none⟩), .pointer (some a), .int .u64 150]]).run Tryd.prog W = .ok (.bool false) W := by
  rw [rlm]
  simp only [Sem.run_bind, partsWrWr, Result.andThen]
  simp [ReflectliteValue.isNil, loadVar, isAgg, underlying, Tryd.underlying43, ha, Result.andThen]
theorem elemVWrWr (a p : Addr) (W : World) (ha : W.cell? a = some (.pointer (some p))) :
    (ReflectliteValue.method (ReflectliteValue.valueError "reflectlite.Value.Elem" 0) ReflectliteValue.elem #[.agg #[.pointer (some ⟨4, 43, none⟩), .pointer (some a), .int .u64 150]]).run Tryd.prog W
      = .ok (.agg #[.pointer (some ⟨4, 39, none⟩), .pointer (some p), .int .u64 406]) W := by
  rw [rlm]
  simp only [Sem.run_bind, partsWrWr, Result.andThen]
  simp [ReflectliteValue.elem, loadVar, isAgg, underlying, Tryd.underlying43, ha, Result.andThen, elemOfWrWr, mkWr]
theorem setWr (ta b e : Addr) (old : Value) (W : World) (hb : W.cell? b = some (.pointer (some e))) (ht : W.cell? ta = some old) (hf : W.frozen? ta = false) :
    (ReflectliteValue.set #[.agg #[.pointer (some ⟨4, 39, none⟩), .pointer (some ta), .int .u64 406], .agg #[.pointer (some ⟨4, 39, none⟩), .pointer (some b), .int .u64 150]]).run Tryd.prog W
      = .ok (.tuple #[]) (W.setCell ta (.pointer (some e))) := by
  rw [rls]
  simp only [Sem.run_bind, partsWra, partsWr, Result.andThen]
  simp [ReflectliteValue.flagAddr, loadVar, isAgg, underlying, Tryd.underlying39, hb, Result.andThen, directWr, storeVar, Value.cells, storeCells, Addr.add]
  rw [run_store Tryd.prog W ta _ _ (by rfl)]
  simp [ht, hf]

end Go.Proofs.YthkimdjkpfpmaaaDoor.Er
