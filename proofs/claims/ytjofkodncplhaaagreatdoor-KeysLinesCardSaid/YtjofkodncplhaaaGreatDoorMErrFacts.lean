/- Closed facts on the model's entries for internal/reflectlite, at the types of fault's errors. Printed by err_facts.py. -/
import Derived.Test.YtjofkodncplhaaaGreatDoorProg
import Derived.WalkKit
import Derived.LaidEql
import Derived.Stop.Asserts
import Derived.RowKitTokens
namespace Go.Proofs.YtjofkodncplhaaaGreatDoor.Er
open Go.RowKit Go.Extern.Stop Go.Stop Go.Extern

theorem valueOfPlPl (t : Addr) (w : World) : (ReflectliteValue.unpack (.iface 57 (.pointer (some t)))).run Tryz.prog w
    = .ok (.agg #[.pointer (some ⟨4, 57, none⟩), .pointer (some ⟨w.heap.size, 0, none⟩), .int .u64 150]) (w.alloc (.cells #[.pointer (some t)] 57)) := by kernel_rfl
theorem typePlPl (a : Addr) (w : World) : (ReflectliteValue.methodAny (ReflectliteValue.valueError "reflectlite.Value.Type" 0) (fun t _ _ _ => ReflectliteType.toType t) #[.agg #[.pointer (some ⟨4, 57, none⟩), .pointer (some a), .int .u64 150]]).run Tryz.prog w
    = .ok (.iface 110 (.agg #[.pointer (some ⟨4, 57, none⟩)])) w := by kernel_rfl
theorem kindPlPl (w : World) : ((ReflectliteType.abiMethod fun t => (fun a : Nat => Value.int IntKind.u8 (a : Int)) <$> Rtype.kind t) #[.pointer (some ⟨4, 57, none⟩)]).run Tryz.prog w = .ok (.int .u8 22) w := by kernel_rfl
theorem kindPl (w : World) : ((ReflectliteType.abiMethod fun t => (fun a : Nat => Value.int IntKind.u8 (a : Int)) <$> Rtype.kind t) #[.pointer (some ⟨4, 55, none⟩)]).run Tryz.prog w = .ok (.int .u8 22) w := by kernel_rfl
theorem elemPlPl (w : World) : (ReflectliteType.method ReflectliteType.elem #[.agg #[.pointer (some ⟨4, 57, none⟩)]]).run Tryz.prog w = .ok (.iface 110 (.agg #[.pointer (some ⟨4, 55, none⟩)])) w := by kernel_rfl
theorem implementsPl (w : World) : (ReflectliteType.relation "Implements" ReflectliteType.implements_ #[.agg #[.pointer (some ⟨4, 55, none⟩)], .iface 110 (.agg #[.pointer (some ⟨4, 33, none⟩)])]).run Tryz.prog w = .ok (.bool true) w := by kernel_rfl
theorem typeOfPl (v : Value) (w : World) : (ReflectliteType.typeOf #[.iface 55 v]).run Tryz.prog w = .ok (.iface 110 (.agg #[.pointer (some ⟨4, 55, none⟩)])) w := by kernel_rfl
theorem valueOfPl (e : Addr) (w : World) : (ReflectliteValue.unpack (.iface 55 (.pointer (some e)))).run Tryz.prog w
    = .ok (.agg #[.pointer (some ⟨4, 55, none⟩), .pointer (some ⟨w.heap.size, 0, none⟩), .int .u64 150]) (w.alloc (.cells #[.pointer (some e)] 55)) := by kernel_rfl
theorem partsPlPl (a : Addr) (w : World) : (ReflectliteValue.parts (.agg #[.pointer (some ⟨4, 57, none⟩), .pointer (some a), .int .u64 150])).run Tryz.prog w = .ok (some (57, a, 150)) w := by kernel_rfl
theorem elemOfPlPl (w : World) : (Rtype.elem? 57).run Tryz.prog w = .ok (some 55) w := by kernel_rfl
theorem mkPl (p : Addr) (w : World) : (ReflectliteValue.mk 55 p ReflectliteValue.flagAddr).run Tryz.prog w = .ok (.agg #[.pointer (some ⟨4, 55, none⟩), .pointer (some p), .int .u64 406]) w := by kernel_rfl
theorem partsPla (a : Addr) (w : World) : (ReflectliteValue.parts (.agg #[.pointer (some ⟨4, 55, none⟩), .pointer (some a), .int .u64 406])).run Tryz.prog w = .ok (some (55, a, 406)) w := by kernel_rfl
theorem partsPl (a : Addr) (w : World) : (ReflectliteValue.parts (.agg #[.pointer (some ⟨4, 55, none⟩), .pointer (some a), .int .u64 150])).run Tryz.prog w = .ok (some (55, a, 150)) w := by kernel_rfl
theorem directPl (w : World) : (Rtype.directlyAssignable 55 55).run Tryz.prog w = .ok true w := by kernel_rfl

theorem assignablePlPl (w : World) : (ReflectliteType.relation "AssignableTo" ReflectliteType.assignableTo #[.agg #[.pointer (some ⟨4, 55, none⟩)], .iface 110 (.agg #[.pointer (some ⟨4, 55, none⟩)])]).run Tryz.prog w = .ok (.bool true) w := by kernel_rfl
theorem assignablePlWr (w : World) : (ReflectliteType.relation "AssignableTo" ReflectliteType.assignableTo #[.agg #[.pointer (some ⟨4, 55, none⟩)], .iface 110 (.agg #[.pointer (some ⟨4, 106, none⟩)])]).run Tryz.prog w = .ok (.bool false) w := by kernel_rfl
theorem kindWr (w : World) : ((ReflectliteType.abiMethod fun t => (fun a : Nat => Value.int IntKind.u8 (a : Int)) <$> Rtype.kind t) #[.pointer (some ⟨4, 106, none⟩)]).run Tryz.prog w = .ok (.int .u8 22) w := by kernel_rfl
theorem implementsWr (w : World) : (ReflectliteType.relation "Implements" ReflectliteType.implements_ #[.agg #[.pointer (some ⟨4, 106, none⟩)], .iface 110 (.agg #[.pointer (some ⟨4, 33, none⟩)])]).run Tryz.prog w = .ok (.bool true) w := by kernel_rfl
theorem typeOfWr (v : Value) (w : World) : (ReflectliteType.typeOf #[.iface 106 v]).run Tryz.prog w = .ok (.iface 110 (.agg #[.pointer (some ⟨4, 106, none⟩)])) w := by kernel_rfl
theorem valueOfWr (e : Addr) (w : World) : (ReflectliteValue.unpack (.iface 106 (.pointer (some e)))).run Tryz.prog w
    = .ok (.agg #[.pointer (some ⟨4, 106, none⟩), .pointer (some ⟨w.heap.size, 0, none⟩), .int .u64 150]) (w.alloc (.cells #[.pointer (some e)] 106)) := by kernel_rfl
theorem mkWr (p : Addr) (w : World) : (ReflectliteValue.mk 106 p ReflectliteValue.flagAddr).run Tryz.prog w = .ok (.agg #[.pointer (some ⟨4, 106, none⟩), .pointer (some p), .int .u64 406]) w := by kernel_rfl
theorem partsWra (a : Addr) (w : World) : (ReflectliteValue.parts (.agg #[.pointer (some ⟨4, 106, none⟩), .pointer (some a), .int .u64 406])).run Tryz.prog w = .ok (some (106, a, 406)) w := by kernel_rfl
theorem partsWr (a : Addr) (w : World) : (ReflectliteValue.parts (.agg #[.pointer (some ⟨4, 106, none⟩), .pointer (some a), .int .u64 150])).run Tryz.prog w = .ok (some (106, a, 150)) w := by kernel_rfl
theorem directWr (w : World) : (Rtype.directlyAssignable 106 106).run Tryz.prog w = .ok true w := by kernel_rfl

theorem assignableWrPl (w : World) : (ReflectliteType.relation "AssignableTo" ReflectliteType.assignableTo #[.agg #[.pointer (some ⟨4, 106, none⟩)], .iface 110 (.agg #[.pointer (some ⟨4, 55, none⟩)])]).run Tryz.prog w = .ok (.bool false) w := by kernel_rfl
theorem assignableWrWr (w : World) : (ReflectliteType.relation "AssignableTo" ReflectliteType.assignableTo #[.agg #[.pointer (some ⟨4, 106, none⟩)], .iface 110 (.agg #[.pointer (some ⟨4, 106, none⟩)])]).run Tryz.prog w = .ok (.bool true) w := by kernel_rfl
theorem methodKind (h : Value) (w : World) : (Go.method 283 110 (.agg #[h]) "Kind").run Tryz.prog w = .ok (141, h) w := by kernel_rfl
theorem methodElem (h : Value) (w : World) : (Go.method 283 110 (.agg #[h]) "Elem").run Tryz.prog w = .ok (154, .agg #[h]) w := by kernel_rfl
theorem methodImplements (h : Value) (w : World) : (Go.method 283 110 (.agg #[h]) "Implements").run Tryz.prog w = .ok (155, .agg #[h]) w := by kernel_rfl
theorem methodAssignableTo (h : Value) (w : World) : (Go.method 283 110 (.agg #[h]) "AssignableTo").run Tryz.prog w = .ok (152, .agg #[h]) w := by kernel_rfl
theorem methodUnwrap (a : Addr) (w : World) : (Go.method 283 106 (.pointer (some a)) "Unwrap").run Tryz.prog w = .ok (150, .pointer (some a)) w := by kernel_rfl
theorem taPlAs (v : Value) (w : World) : (Instr.typeAssert (.iface 55 v) 33 115 true).run Tryz.prog w = .ok (.tuple #[.nilIface, .bool false]) w := run_typeAssert_lacksB Tryz.underlying115 (by kernel_rfl) (by kernel_rfl) v 33 w
theorem taWrAs (v : Value) (w : World) : (Instr.typeAssert (.iface 106 v) 33 115 true).run Tryz.prog w = .ok (.tuple #[.nilIface, .bool false]) w := run_typeAssert_lacksB Tryz.underlying115 (by kernel_rfl) (by kernel_rfl) v 33 w
theorem taPlUn (v : Value) (w : World) : (Instr.typeAssert (.iface 55 v) 33 118 true).run Tryz.prog w = .ok (.tuple #[.nilIface, .bool false]) w := run_typeAssert_lacksB Tryz.underlying118 (by kernel_rfl) (by kernel_rfl) v 33 w
theorem taWrUn (v : Value) (w : World) : (Instr.typeAssert (.iface 106 v) 33 118 true).run Tryz.prog w = .ok (.tuple #[.iface 106 v, .bool true]) w := run_typeAssert_hasB Tryz.underlying118 (by kernel_rfl) v 33 w
theorem taPlUs (v : Value) (w : World) : (Instr.typeAssert (.iface 55 v) 33 120 true).run Tryz.prog w = .ok (.tuple #[.nilIface, .bool false]) w := run_typeAssert_lacksB Tryz.underlying120 (by kernel_rfl) (by kernel_rfl) v 33 w

theorem rlm (z : Sem Value) (f : TypeId → Addr → Nat → Nat → Sem Value) (v : Value) :
    ReflectliteValue.method z f #[v] = (do match ← ReflectliteValue.parts v with | none => z | some (t, a, fl) => f t a fl (fl % 32)) := rfl
theorem rls (v x : Value) : ReflectliteValue.set #[v, x] = (do
    let (some (dst, a, fl), some (src, b, _)) := (← ReflectliteValue.parts v, ← ReflectliteValue.parts x)
      | unsupported (.noEntry "extern/(internal/reflectlite.Value).Set.zeroValue")
    if fl / ReflectliteValue.flagAddr % 2 == 0 then unsupported (.noEntry "extern/(internal/reflectlite.Value).Set.unaddressable")
    let val ← loadVar src b
    if ← Rtype.directlyAssignable dst src then storeVar dst a val
    else if ← Rtype.implements dst src then
      if (← Rtype.kind src) == 20 then
        match val with
        | .nilIface => unsupported (.noEntry "extern/reflectlite: a nil value of one interface type handed on as a value of another")
        | _ => storeVar dst a val
      else storeVar dst a (.iface src val)
    else panicString ("reflectlite.Set: value of type " ++ (← Rtype.spelt src) ++ " is not assignable to type " ++ (← Rtype.spelt dst))
    pure (.tuple #[])) := rfl

theorem isNilPlPl (a p : Addr) (W : World) (ha : W.cell? a = some (.pointer (some p))) :
    (ReflectliteValue.method (ReflectliteValue.valueError "reflectlite.Value.IsNil" 0) ReflectliteValue.isNil #[.agg #[.pointer (some ⟨4, 57, none⟩), .pointer (some a), .int .u64 150]]).run Tryz.prog W = .ok (.bool false) W := by
  rw [rlm]
  simp only [Sem.run_bind, partsPlPl, Result.andThen]
  simp [ReflectliteValue.isNil, loadVar, isAgg, underlying, Tryz.underlying57, ha, Result.andThen]
theorem elemVPlPl (a p : Addr) (W : World) (ha : W.cell? a = some (.pointer (some p))) :
    (ReflectliteValue.method (ReflectliteValue.valueError "reflectlite.Value.Elem" 0) ReflectliteValue.elem #[.agg #[.pointer (some ⟨4, 57, none⟩), .pointer (some a), .int .u64 150]]).run Tryz.prog W
      = .ok (.agg #[.pointer (some ⟨4, 55, none⟩), .pointer (some p), .int .u64 406]) W := by
  rw [rlm]
  simp only [Sem.run_bind, partsPlPl, Result.andThen]
  simp [ReflectliteValue.elem, loadVar, isAgg, underlying, Tryz.underlying57, ha, Result.andThen, elemOfPlPl, mkPl]
theorem setPl (ta b e : Addr) (old : Value) (W : World) (hb : W.cell? b = some (.pointer (some e))) (ht : W.cell? ta = some old) (hf : W.frozen? ta = false) :
    (ReflectliteValue.set #[.agg #[.pointer (some ⟨4, 55, none⟩), .pointer (some ta), .int .u64 406], .agg #[.pointer (some ⟨4, 55, none⟩), .pointer (some b), .int .u64 150]]).run Tryz.prog W
      = .ok (.tuple #[]) (W.setCell ta (.pointer (some e))) := by
  rw [rls]
  simp only [Sem.run_bind, partsPla, partsPl, Result.andThen]
  simp [ReflectliteValue.flagAddr, loadVar, isAgg, underlying, Tryz.underlying55, hb, Result.andThen, directPl, storeVar, Value.cells, storeCells, Addr.add]
  rw [run_store Tryz.prog W ta _ _ (by rfl)]
  simp [ht, hf]

theorem setWr (ta b e : Addr) (old : Value) (W : World) (hb : W.cell? b = some (.pointer (some e))) (ht : W.cell? ta = some old) (hf : W.frozen? ta = false) :
    (ReflectliteValue.set #[.agg #[.pointer (some ⟨4, 106, none⟩), .pointer (some ta), .int .u64 406], .agg #[.pointer (some ⟨4, 106, none⟩), .pointer (some b), .int .u64 150]]).run Tryz.prog W
      = .ok (.tuple #[]) (W.setCell ta (.pointer (some e))) := by
  rw [rls]
  simp only [Sem.run_bind, partsWra, partsWr, Result.andThen]
  simp [ReflectliteValue.flagAddr, loadVar, isAgg, underlying, Tryz.underlying106, hb, Result.andThen, directWr, storeVar, Value.cells, storeCells, Addr.add]
  rw [run_store Tryz.prog W ta _ _ (by rfl)]
  simp [ht, hf]

end Go.Proofs.YtjofkodncplhaaaGreatDoor.Er
