/- errors.As, by errors.as. -/
import Derived.Test.YtokdnhdfmgfkeaaGreatDoorProg
import Derived.WalkKit
import Derived.LaidEql
import Derived.Stop.Asserts
import Derived.RowKitTokens
import Derived.Test.YtokdnhdfmgfkeaaGreatDoorWUtfMath
import Derived.Deep.LoopGhost
import Derived.Below
import Derived.Lib.Hide
set_option linter.unusedVariables false
set_option linter.unusedSimpArgs false
section
namespace Go.Proofs.YtokdnhdfmgfkeaaGreatDoor.Er
open Go.RowKit Go.Extern.Stop Go.Stop Go.Extern
theorem valueOfPlPl (t : Addr) (w : World) : (ReflectliteValue.unpack (.iface 76 (.pointer (some t)))).run Tryz.prog w
  = .ok (.agg #[.pointer (some ⟨7, 76, none⟩), .pointer (some ⟨w.heap.size, 0, none⟩), .int .u64 150]) (w.alloc (.cells #[.pointer (some t)] 76)) := by kernel_rfl
theorem typePlPl (a : Addr) (w : World) : (ReflectliteValue.methodAny (ReflectliteValue.valueError "reflectlite.Value.Type" 0) (fun t _ _ _ => ReflectliteType.toType t) #[.agg #[.pointer (some ⟨7, 76, none⟩), .pointer (some a), .int .u64 150]]).run Tryz.prog w
  = .ok (.iface 162 (.agg #[.pointer (some ⟨7, 76, none⟩)])) w := by kernel_rfl
theorem kindPlPl (w : World) : ((ReflectliteType.abiMethod fun t => (fun a : Nat => Value.int IntKind.u8 (a : Int)) <$> Rtype.kind t) #[.pointer (some ⟨7, 76, none⟩)]).run Tryz.prog w = .ok (.int .u8 22) w := by kernel_rfl
theorem kindPl (w : World) : ((ReflectliteType.abiMethod fun t => (fun a : Nat => Value.int IntKind.u8 (a : Int)) <$> Rtype.kind t) #[.pointer (some ⟨7, 74, none⟩)]).run Tryz.prog w = .ok (.int .u8 22) w := by kernel_rfl
theorem elemPlPl (w : World) : (ReflectliteType.method ReflectliteType.elem #[.agg #[.pointer (some ⟨7, 76, none⟩)]]).run Tryz.prog w = .ok (.iface 162 (.agg #[.pointer (some ⟨7, 74, none⟩)])) w := by kernel_rfl
theorem implementsPl (w : World) : (ReflectliteType.relation "Implements" ReflectliteType.implements_ #[.agg #[.pointer (some ⟨7, 74, none⟩)], .iface 162 (.agg #[.pointer (some ⟨7, 31, none⟩)])]).run Tryz.prog w = .ok (.bool true) w := by kernel_rfl
theorem typeOfPl (v : Value) (w : World) : (ReflectliteType.typeOf #[.iface 74 v]).run Tryz.prog w = .ok (.iface 162 (.agg #[.pointer (some ⟨7, 74, none⟩)])) w := by kernel_rfl
theorem valueOfPl (e : Addr) (w : World) : (ReflectliteValue.unpack (.iface 74 (.pointer (some e)))).run Tryz.prog w
  = .ok (.agg #[.pointer (some ⟨7, 74, none⟩), .pointer (some ⟨w.heap.size, 0, none⟩), .int .u64 150]) (w.alloc (.cells #[.pointer (some e)] 74)) := by kernel_rfl
theorem partsPlPl (a : Addr) (w : World) : (ReflectliteValue.parts (.agg #[.pointer (some ⟨7, 76, none⟩), .pointer (some a), .int .u64 150])).run Tryz.prog w = .ok (some (76, a, 150)) w := by kernel_rfl
theorem elemOfPlPl (w : World) : (Rtype.elem? 76).run Tryz.prog w = .ok (some 74) w := by kernel_rfl
theorem mkPl (p : Addr) (w : World) : (ReflectliteValue.mk 74 p ReflectliteValue.flagAddr).run Tryz.prog w = .ok (.agg #[.pointer (some ⟨7, 74, none⟩), .pointer (some p), .int .u64 406]) w := by kernel_rfl
theorem partsPla (a : Addr) (w : World) : (ReflectliteValue.parts (.agg #[.pointer (some ⟨7, 74, none⟩), .pointer (some a), .int .u64 406])).run Tryz.prog w = .ok (some (74, a, 406)) w := by kernel_rfl
theorem partsPl (a : Addr) (w : World) : (ReflectliteValue.parts (.agg #[.pointer (some ⟨7, 74, none⟩), .pointer (some a), .int .u64 150])).run Tryz.prog w = .ok (some (74, a, 150)) w := by kernel_rfl
theorem directPl (w : World) : (Rtype.directlyAssignable 74 74).run Tryz.prog w = .ok true w := by kernel_rfl
theorem assignablePlPl (w : World) : (ReflectliteType.relation "AssignableTo" ReflectliteType.assignableTo #[.agg #[.pointer (some ⟨7, 74, none⟩)], .iface 162 (.agg #[.pointer (some ⟨7, 74, none⟩)])]).run Tryz.prog w = .ok (.bool true) w := by kernel_rfl
theorem typeOfWr (v : Value) (w : World) : (ReflectliteType.typeOf #[.iface 99 v]).run Tryz.prog w = .ok (.iface 162 (.agg #[.pointer (some ⟨7, 99, none⟩)])) w := by kernel_rfl
theorem assignableWrPl (w : World) : (ReflectliteType.relation "AssignableTo" ReflectliteType.assignableTo #[.agg #[.pointer (some ⟨7, 99, none⟩)], .iface 162 (.agg #[.pointer (some ⟨7, 74, none⟩)])]).run Tryz.prog w = .ok (.bool false) w := by kernel_rfl
theorem methodKind (h : Value) (w : World) : (Go.method 359 162 (.agg #[h]) "Kind").run Tryz.prog w = .ok (235, h) w := by kernel_rfl
theorem methodElem (h : Value) (w : World) : (Go.method 359 162 (.agg #[h]) "Elem").run Tryz.prog w = .ok (248, .agg #[h]) w := by kernel_rfl
theorem methodImplements (h : Value) (w : World) : (Go.method 359 162 (.agg #[h]) "Implements").run Tryz.prog w = .ok (249, .agg #[h]) w := by kernel_rfl
theorem methodAssignableTo (h : Value) (w : World) : (Go.method 359 162 (.agg #[h]) "AssignableTo").run Tryz.prog w = .ok (246, .agg #[h]) w := by kernel_rfl
theorem methodUnwrap (a : Addr) (w : World) : (Go.method 359 99 (.pointer (some a)) "Unwrap").run Tryz.prog w = .ok (241, .pointer (some a)) w := by kernel_rfl
theorem taWrAs (v : Value) (w : World) : (Instr.typeAssert (.iface 99 v) 31 167 true).run Tryz.prog w = .ok (.tuple #[.nilIface, .bool false]) w := run_typeAssert_lacksB Tryz.underlying167 (by kernel_rfl) (by kernel_rfl) v 31 w
theorem taWrUn (v : Value) (w : World) : (Instr.typeAssert (.iface 99 v) 31 170 true).run Tryz.prog w = .ok (.tuple #[.iface 99 v, .bool true]) w := run_typeAssert_hasB Tryz.underlying170 (by kernel_rfl) v 31 w
theorem rlm (z : Sem Value) (f : TypeId -> Addr -> Nat -> Nat -> Sem Value) (v : Value) :
  ReflectliteValue.method z f #[v] = (do match ← ReflectliteValue.parts v with | none => z | some (t, a, fl) => f t a fl (fl % 32)) := rfl
theorem rls (v x : Value) : ReflectliteValue.set #[v, x] = (do
  let (some (dst, a, fl), some (src, b, _)) := (← ReflectliteValue.parts v, <- ReflectliteValue.parts x)
   | unsupported (.noEntry "extern/(internal/reflectlite.Value).Set.zeroValue")
  if fl / ReflectliteValue.flagAddr % 2 == 0 then unsupported (.noEntry "extern/(internal/reflectlite.Value).Set.unaddressable")
  let val ← loadVar src b
  if ← Rtype.directlyAssignable dst src then storeVar dst a val
  else if ← Rtype.implements dst src then
   if (← Rtype.kind src) == 20 then
    match val with
    | .nilIface => unsupported (.noEntry "extern/reflectlite: a nil value of one interface type handed on as a value of another")
    | _ => storeVar dst a val
   else storeVar dst a (.iface src val)
  else panicString ("reflectlite.Set: value of type " ++ (← Rtype.spelt src) ++ " is not assignable to type " ++ (← Rtype.spelt dst))
  pure (.tuple #[])) := rfl
theorem isNilPlPl (a p : Addr) (W : World) (ha : W.cell? a = some (.pointer (some p))) :
  (ReflectliteValue.method (ReflectliteValue.valueError "reflectlite.Value.IsNil" 0) ReflectliteValue.isNil #[.agg #[.pointer (some ⟨7, 76, none⟩), .pointer (some a), .int .u64 150]]).run Tryz.prog W = .ok (.bool false) W := by
 rw [rlm];simp only [Sem.run_bind, partsPlPl, Result.andThen];simp [ReflectliteValue.isNil, loadVar, isAgg, underlying, Tryz.underlying76, ha, Result.andThen]
theorem elemVPlPl (a p : Addr) (W : World) (ha : W.cell? a = some (.pointer (some p))) :
  (ReflectliteValue.method (ReflectliteValue.valueError "reflectlite.Value.Elem" 0) ReflectliteValue.elem #[.agg #[.pointer (some ⟨7, 76, none⟩), .pointer (some a), .int .u64 150]]).run Tryz.prog W
   = .ok (.agg #[.pointer (some ⟨7, 74, none⟩), .pointer (some p), .int .u64 406]) W := by
 rw [rlm];simp only [Sem.run_bind, partsPlPl, Result.andThen];simp [ReflectliteValue.elem, loadVar, isAgg, underlying, Tryz.underlying76, ha, Result.andThen, elemOfPlPl, mkPl]
theorem setPl (ta b e : Addr) (old : Value) (W : World) (hb : W.cell? b = some (.pointer (some e))) (ht : W.cell? ta = some old) (hf : W.frozen? ta = false) :
  (ReflectliteValue.set #[.agg #[.pointer (some ⟨7, 74, none⟩), .pointer (some ta), .int .u64 406], .agg #[.pointer (some ⟨7, 74, none⟩), .pointer (some b), .int .u64 150]]).run Tryz.prog W
   = .ok (.tuple #[]) (W.setCell ta (.pointer (some e))) := by
 rw [rls];simp only [Sem.run_bind, partsPla, partsPl, Result.andThen];simp [ReflectliteValue.flagAddr, loadVar, isAgg, underlying, Tryz.underlying74, hb, Result.andThen, directPl, storeVar, Value.cells, storeCells, Addr.add];rw [run_store Tryz.prog W ta _ _ (by rfl)];simp [ht, hf]
end Go.Proofs.YtokdnhdfmgfkeaaGreatDoor.Er
end

section
namespace Go.Proofs.YtokdnhdfmgfkeaaGreatDoor.Er
open Go.RowKit Go.Extern.Stop Go.Stop Go.Extern
def Ch (w : World) (n : Nat) (p : Addr) : List ByteArray -> Value -> Prop
 | [], e => e = .iface 74 (.pointer (some p)) /\ p.block < n
 | s :: ws, e => ∃ b inner, e = .iface 99 (.pointer (some ⟨b, 0, none⟩)) /\ b < n /\ w.cell? ⟨b, 0, none⟩ = some (.string s) /\ w.cell? ⟨b, 1, none⟩ = some inner /\ Ch w n p ws inner
theorem Ch.on {w w' : World} {n : Nat} {p : Addr} (hb : Below n w w') : ∀ {ws : List ByteArray} {e : Value}, Ch w n p ws e -> Ch w' n p ws e
 | [], _, h => h
 | _ :: _, _, ⟨b, inner, h1, h2, h3, h4, h5⟩ => ⟨b, inner, h1, h2, by rw [hb.cell h2]; exact h3, by rw [hb.cell h2]; exact h4, h5.on hb⟩
theorem Ch.up {w : World} {n m : Nat} {p : Addr} (hn : n <= m) : ∀ {ws : List ByteArray} {e : Value}, Ch w n p ws e -> Ch w m p ws e
 | [], _, h => ⟨h.1, Nat.lt_of_lt_of_le h.2 hn⟩
 | _ :: _, _, ⟨b, inner, h1, h2, h3, h4, h5⟩ => ⟨b, inner, h1, Nat.lt_of_lt_of_le h2 hn, h3, h4, h5.up hn⟩
theorem unwrap_any (a : Addr) (v : Value) (w : World) (ha : w.cell? ⟨a.block, 1, none⟩ = some v) (h0 : a = ⟨a.block, 0, none⟩) :
  Calls Tryz.prog 241 #[.pointer (some a)] w fun e w' => e = .returned v /\ w' = w := by
 obtain ⟨b, q, r⟩ := a;simp only at h0 ha;obtain ⟨rfl, rfl⟩ : q = 0 /\ r = none := by simpa using h0
 go_enter Tryz.func241, Tryz.ntmps241
 go_wp2
 go_ret;exact ⟨rfl, rfl⟩
set_option maxHeartbeats 4000000 in
theorem as_pl (e : Value) (t p a : Addr) (old : Value) (ws : List ByteArray) (B : Nat) (w : World) (hc : Ch w B p ws e) (ht0 : w.cell? t = some old) (hf0 : w.frozen? t = false) (hB : B <= t.block) (ha : w.cell? a = some (.pointer (some t))) :
  Calls Tryz.prog 93 #[e, .iface 76 (.pointer (some t)), .agg #[.pointer (some ⟨7, 76, none⟩), .pointer (some a), .int .u64 150], .iface 162 (.agg #[.pointer (some ⟨7, 74, none⟩)])] w
   fun ev w' => ev = .returned (.bool true) /\ w'.cell? t = some (.pointer (some p)) /\ Below B w w' := by
 have x21 := @run_callFunc_extern Tryz.prog 90 _ (fun args => ReflectliteValue.unpack (args.getD 0 (.tuple #[]))) Tryz.func90 (by kernel_rfl) (by kernel_rfl) (by kernel_rfl) (by kernel_rfl);have x26 := @run_callFunc_extern Tryz.prog 124 _ ReflectliteType.typeOf Tryz.func124 (by kernel_rfl) (by kernel_rfl) (by kernel_rfl) (by kernel_rfl);have x67 := @run_callFunc_extern Tryz.prog 246 _ (ReflectliteType.relation "AssignableTo" ReflectliteType.assignableTo) Tryz.func246 (by kernel_rfl) (by kernel_rfl) (by kernel_rfl) (by kernel_rfl);have x28 := @run_callFunc_extern Tryz.prog 125 _ (ReflectliteValue.method (ReflectliteValue.valueError "reflectlite.Value.Elem" 0) ReflectliteValue.elem) Tryz.func125 (by kernel_rfl) (by kernel_rfl) (by kernel_rfl) (by kernel_rfl);have x29 := @run_callFunc_extern Tryz.prog 126 _ ReflectliteValue.set Tryz.func126 (by kernel_rfl) (by kernel_rfl) (by kernel_rfl) (by kernel_rfl);have t1 := typeOfPl;have t2 := typeOfWr;have t3 := methodAssignableTo;have t4 := assignablePlPl;have t5 := assignableWrPl;have t6 := taWrAs;have t7 := taWrUn;have t8 := methodUnwrap;have t9 := valueOfPl
 have htl : t.block < w.heap.size := by
  rcases Nat.lt_or_ge t.block w.heap.size with h | h
  ·exact h
  ·simp [World.cell?, Array.getElem?_eq_none h] at ht0
 have hal : a.block < w.heap.size := by
  rcases Nat.lt_or_ge a.block w.heap.size with h | h
  ·exact h
  ·simp [World.cell?, Array.getElem?_eq_none h] at ha
 go_enter Tryz.func93, Tryz.ntmps93
 go_wp2_with fail
 go_loopg [0] (ws.length + 1) (fun k e' wr => ∃ ws', ws'.length < k /\ Hid (Ch w B p ws' e') /\ Hid (wr = w.alloc (.cells #[.pointer (some ⟨7, 76, none⟩), .pointer (some a), .int .u64 150] 122)))
 case atStart => exact ⟨ws, by omega, Hd hc, Hd rfl⟩
 case round =>
  obtain ⟨ws', hk, hch, hwr⟩ := hrel
  cases ws' with
  | nil =>
   obtain ⟨rfl, hp⟩ := (show Ch w B p [] _ from hch);have hwr' := (show wr = _ from hwr);subst hwr';clear hch hwr;have el := elemVPlPl a t (w.alloc (.cells #[.pointer (some ⟨7, 76, none⟩), .pointer (some a), .int .u64 150] 122)) (by rw [World.cell?_alloc_lt _ _ a hal]; exact ha)
   have st := setPl t ⟨w.heap.size + 1, 0, none⟩ p old ((w.alloc (.cells #[.pointer (some ⟨7, 76, none⟩), .pointer (some a), .int .u64 150] 122)).alloc (.cells #[.pointer (some p)] 74))
    (by rw [World.cell?_alloc_at _ _ _ _ (by simp)]; rfl)
    (by rw [World.cell?_alloc_lt _ _ t (by simp; omega), World.cell?_alloc_lt _ _ t htl]; exact ht0)
    (by rw [World.frozen?_alloc_old _ _ t (by simp; omega), World.frozen?_alloc_old _ _ t (Nat.ne_of_lt htl)]; exact hf0)
   go_wp2
   go_ret;refine ⟨rfl, ?_, ?_⟩
   ·exact World.cell?_setCell_same _ t _ (show World.cell? _ t = some old from by rw [World.cell?_alloc_lt _ _ t (by simp; omega), World.cell?_alloc_lt _ _ t htl]; exact ht0)
   ·exact (((Below.refl B w).alloc (by omega) _).alloc (by simp; omega) _).setCell hB _
  | cons s ws' =>
   obtain ⟨b, inner, rfl, hb, h0, h1, h2⟩ := (show Ch w B p (s :: ws') _ from hch);have hwr' := (show wr = _ from hwr);subst hwr'
   obtain ⟨T, ad, rfl⟩ : ∃ T ad, inner = .iface T (.pointer ad) := by
    cases ws' with
    | nil => exact ⟨_, _, h2.1⟩
    | cons s2 ws2 => obtain ⟨_, _, h3, _⟩ := h2; exact ⟨_, _, h3⟩
   have h2' := Hd h2;clear hch hwr h2;have hal' : b < w.heap.size := Nat.lt_trans hb (Nat.lt_of_le_of_lt hB htl);go_wp2_with fail;refine (unwrap_any ⟨b, 0, none⟩ _ _ (by rw [World.cell?_alloc_lt _ _ ⟨b, 1, none⟩ hal']; exact h1) rfl).mono ?_;rintro e' w1 ⟨rfl, rfl⟩;go_wp2_with fail
   go_roundg (ws'.length + 1)
   case measure => simp at hk; omega
   case rel => exact ⟨ws', by omega, h2', Hd rfl⟩
end Go.Proofs.YtokdnhdfmgfkeaaGreatDoor.Er
end

section
namespace Go.Proofs.YtokdnhdfmgfkeaaGreatDoor.Er
open Go.RowKit Go.Extern.Stop Go.Stop Go.Extern
end Go.Proofs.YtokdnhdfmgfkeaaGreatDoor.Er
end

section
namespace Go.Proofs.YtokdnhdfmgfkeaaGreatDoor.Er
open Go.RowKit Go.Extern.Stop Go.Stop Go.Extern
set_option maxHeartbeats 4000000 in
theorem As_pl (T : TypeId) (e : Value) (t : Addr) (old : Value) (w : World) (Q : Ending -> World -> Prop) (hg : w.cell? ⟨0, 0, none⟩ = some (.iface 162 (.agg #[.pointer (some ⟨7, 31, none⟩)]))) (ht0 : w.cell? t = some old)
  (hQ : ∀ w1 a, Below w.heap.size w w1 -> w1.cell? a = some (.pointer (some t)) →
   Calls Tryz.prog 93 #[.iface T e, .iface 76 (.pointer (some t)), .agg #[.pointer (some ⟨7, 76, none⟩), .pointer (some a), .int .u64 150], .iface 162 (.agg #[.pointer (some ⟨7, 74, none⟩)])] w1 fun ev w' => (∃ b, ev = .returned (.bool b)) /\ Q ev w') :
  Calls Tryz.prog 60 #[.iface T e, .iface 76 (.pointer (some t))] w Q := by
 have h6 := @run_callFunc_extern Tryz.prog 90 _ (fun args => ReflectliteValue.unpack (args.getD 0 (.tuple #[]))) Tryz.func90 (by kernel_rfl) (by kernel_rfl) (by kernel_rfl) (by kernel_rfl);have h7 := @run_callFunc_extern Tryz.prog 91 _ (ReflectliteValue.methodAny (ReflectliteValue.valueError "reflectlite.Value.Type" 0) (fun t _ _ _ => ReflectliteType.toType t)) Tryz.func91 (by kernel_rfl) (by kernel_rfl) (by kernel_rfl) (by kernel_rfl);have h8 := @run_callFunc_extern Tryz.prog 92 _ (ReflectliteValue.method (ReflectliteValue.valueError "reflectlite.Value.IsNil" 0) ReflectliteValue.isNil) Tryz.func92 (by kernel_rfl) (by kernel_rfl) (by kernel_rfl) (by kernel_rfl);have h27 := @run_callFunc_extern Tryz.prog 235 _ (ReflectliteType.abiMethod fun t => do pure (.int .u8 (← Rtype.kind t))) Tryz.func235 (by kernel_rfl) (by kernel_rfl) (by kernel_rfl) (by kernel_rfl);have h37 := @run_callFunc_extern Tryz.prog 248 _ (ReflectliteType.method ReflectliteType.elem) Tryz.func248 (by kernel_rfl) (by kernel_rfl) (by kernel_rfl) (by kernel_rfl);have h38 := @run_callFunc_extern Tryz.prog 249 _ (ReflectliteType.relation "Implements" ReflectliteType.implements_) Tryz.func249 (by kernel_rfl) (by kernel_rfl) (by kernel_rfl) (by kernel_rfl);have f6 := valueOfPlPl;have f7 := typePlPl;have mK := methodKind;have mE := methodElem;have mI := methodImplements;have k27 := kindPlPl;have k25 := kindPl;have e27 := elemPlPl;have i25 := implementsPl
 have n8 := isNilPlPl ⟨w.heap.size, 0, none⟩ t ((w.alloc (.cells #[.pointer (some t)] 76)).alloc (.cells #[.pointer (some ⟨7, 76, none⟩), .pointer (some ⟨w.heap.size, 0, none⟩), .int .u64 150] 122)) (by simp)
 have hlt : 0 < w.heap.size := by
  rcases Nat.lt_or_ge 0 w.heap.size with h | h
  ·exact h
  ·simp [World.cell?, Array.getElem?_eq_none h] at hg
 have hg2 : ((w.alloc (.cells #[.pointer (some t)] 76)).alloc (.cells #[.pointer (some ⟨7, 76, none⟩), .pointer (some ⟨w.heap.size, 0, none⟩), .int .u64 150] 122)).cell? ⟨0, 0, none⟩ = some (.iface 162 (.agg #[.pointer (some ⟨7, 31, none⟩)])) := by
  rw [World.cell?_alloc_lt _ _ ⟨0, 0, none⟩ (by simp), World.cell?_alloc_lt _ _ ⟨0, 0, none⟩ hlt]; exact hg
 have hQ' := hQ;have hH := Hd hQ;clear hQ hQ'
 go_enter Tryz.func60, Tryz.ntmps60
 go_wp2_with fail;refine (hH.out _ ⟨w.heap.size, 0, none⟩ (((Below.refl _ w).alloc (Nat.le_refl _) _).alloc (by simp) _) (by simp)).mono ?_;rintro ev w1 ⟨⟨b, rfl⟩, hq⟩;have hq' := Hd hq;clear hq;go_wp2_with fail;exact hq'
def Et (w : World) : Prop := w.cell? ⟨0, 0, none⟩ = some (.iface 162 (.agg #[.pointer (some ⟨7, 31, none⟩)]))
theorem Ch.iface {w : World} {n : Nat} {p : Addr} : ∀ {ws : List ByteArray} {e : Value}, Ch w n p ws e -> ∃ T ad, e = .iface T (.pointer (some ad))
 | [], _, h => ⟨_, _, h.1⟩
 | _ :: _, _, ⟨_, _, h, _⟩ => ⟨_, _, h⟩
theorem As_plain (e : Value) (t p : Addr) (old : Value) (ws : List ByteArray) (B : Nat) (w : World) (hg : Et w) (hc : Ch w B p ws e) (ht0 : w.cell? t = some old) (hf0 : w.frozen? t = false) (hB : B <= t.block) :
  Calls Tryz.prog 60 #[e, .iface 76 (.pointer (some t))] w fun ev w' => ev = .returned (.bool true) /\ w'.cell? t = some (.pointer (some p)) /\ Below B w w' := by
 have htl : t.block < w.heap.size := by
  rcases Nat.lt_or_ge t.block w.heap.size with h | h
  ·exact h
  ·simp [World.cell?, Array.getElem?_eq_none h] at ht0
 obtain ⟨T, ad, rfl⟩ := hc.iface;refine As_pl T _ t old w _ hg ht0 ?_;intro w1 a hb ha;refine (as_pl _ t p a old ws B w1 (hc.on (hb.mono (by omega))) (by rw [hb.cell htl]; exact ht0) (by rw [hb.frozen htl]; exact hf0) hB ha).mono ?_;rintro ev w2 ⟨rfl, h1, h2⟩;exact ⟨⟨_, rfl⟩, rfl, h1, (hb.mono (by omega)).trans h2⟩
end Go.Proofs.YtokdnhdfmgfkeaaGreatDoor.Er
end
