/- errors.As, by errors.as. -/
import Derived.Test.YthiikldjngamaaaDoorErrAs2
namespace Go.Proofs.YthiikldjngamaaaDoor.Er
open Go.RowKit Go.Extern.Stop Go.Stop Go.Extern

/-- errors.As(nil, ..). -/
theorem As_nil (t : Value) (w : World) :
    Calls Tryd.prog 16 #[.nilIface, t] w fun e w' => e = .returned (.bool false) ∧ w' = w := by
  go_enter Tryd.func16, Tryd.ntmps16
  go_wp2
  go_ret
  exact ⟨rfl, rfl⟩

set_option maxHeartbeats 4000000 in
/-- errors.As at the target **fault.plain: what errors.as tells. -/
theorem As_pl (T : TypeId) (e : Value) (t : Addr) (old : Value) (w : World) (Q : Ending → World → Prop) (hg : w.cell? ⟨0, 0, none⟩ = some (.iface 78 (.agg #[.pointer (some ⟨4, 25, none⟩)]))) (ht0 : w.cell? t = some old)
    (hQ : ∀ w1 a, Below w.heap.size w w1 → w1.cell? a = some (.pointer (some t)) →
      Calls Tryd.prog 24 #[.iface T e, .iface 50 (.pointer (some t)), .agg #[.pointer (some ⟨4, 50, none⟩), .pointer (some a), .int .u64 150], .iface 78 (.agg #[.pointer (some ⟨4, 48, none⟩)])] w1 fun ev w' => (∃ b, ev = .returned (.bool b)) ∧ Q ev w') :
    Calls Tryd.prog 16 #[.iface T e, .iface 50 (.pointer (some t))] w Q := by
  have h6 := @run_callFunc_extern Tryd.prog 21 _ (fun args => ReflectliteValue.unpack (args.getD 0 (.tuple #[]))) Tryd.func21 (by kernel_rfl) (by kernel_rfl) (by kernel_rfl) (by kernel_rfl)
  have h7 := @run_callFunc_extern Tryd.prog 22 _ (ReflectliteValue.methodAny (ReflectliteValue.valueError "reflectlite.Value.Type" 0) (fun t _ _ _ => ReflectliteType.toType t)) Tryd.func22 (by kernel_rfl) (by kernel_rfl) (by kernel_rfl) (by kernel_rfl)
  have h8 := @run_callFunc_extern Tryd.prog 23 _ (ReflectliteValue.method (ReflectliteValue.valueError "reflectlite.Value.IsNil" 0) ReflectliteValue.isNil) Tryd.func23 (by kernel_rfl) (by kernel_rfl) (by kernel_rfl) (by kernel_rfl)
  have h27 := @run_callFunc_extern Tryd.prog 83 _ (ReflectliteType.abiMethod fun t => do pure (.int .u8 (← Rtype.kind t))) Tryd.func83 (by kernel_rfl) (by kernel_rfl) (by kernel_rfl) (by kernel_rfl)
  have h37 := @run_callFunc_extern Tryd.prog 95 _ (ReflectliteType.method ReflectliteType.elem) Tryd.func95 (by kernel_rfl) (by kernel_rfl) (by kernel_rfl) (by kernel_rfl)
  have h38 := @run_callFunc_extern Tryd.prog 96 _ (ReflectliteType.relation "Implements" ReflectliteType.implements_) Tryd.func96 (by kernel_rfl) (by kernel_rfl) (by kernel_rfl) (by kernel_rfl)
  have f6 := valueOfPlPl
  have f7 := typePlPl
  have mK := methodKind
  have mE := methodElem
  have mI := methodImplements
  have k27 := kindPlPl
  have k25 := kindPl
  have e27 := elemPlPl
  have i25 := implementsPl
  have n8 := isNilPlPl ⟨w.heap.size, 0, none⟩ t ((w.alloc (.cells #[.pointer (some t)] 50)).alloc (.cells #[.pointer (some ⟨4, 50, none⟩), .pointer (some ⟨w.heap.size, 0, none⟩), .int .u64 150] 62)) (by simp)
  have hlt : 0 < w.heap.size := by
    rcases Nat.lt_or_ge 0 w.heap.size with h | h
    · exact h
    · simp [World.cell?, Array.getElem?_eq_none h] at hg
  have hg2 : ((w.alloc (.cells #[.pointer (some t)] 50)).alloc (.cells #[.pointer (some ⟨4, 50, none⟩), .pointer (some ⟨w.heap.size, 0, none⟩), .int .u64 150] 62)).cell? ⟨0, 0, none⟩ = some (.iface 78 (.agg #[.pointer (some ⟨4, 25, none⟩)])) := by
    rw [World.cell?_alloc_lt _ _ ⟨0, 0, none⟩ (by simp), World.cell?_alloc_lt _ _ ⟨0, 0, none⟩ hlt]; exact hg
  have hQ' := hQ
  have hH := Lib.hid hQ
  clear hQ hQ'
  go_enter Tryd.func16, Tryd.ntmps16
  go_wp2_with fail
  refine (hH.out _ ⟨w.heap.size, 0, none⟩ (((Below.refl _ w).alloc (Nat.le_refl _) _).alloc (by simp) _) (by simp)).mono ?_
  rintro ev w1 ⟨⟨b, rfl⟩, hq⟩
  have hq' := Lib.hid hq
  clear hq
  go_wp2_with fail
  exact hq'


/-- What the row's list gives of errors.errorType. -/
def Et (w : World) : Prop := w.cell? ⟨0, 0, none⟩ = some (.iface 78 (.agg #[.pointer (some ⟨4, 25, none⟩)]))

theorem Ch.iface {w : World} {n : Nat} {p : Addr} : ∀ {ws : List ByteArray} {e : Value}, Ch w n p ws e → ∃ T ad, e = .iface T (.pointer (some ad))
  | [], _, h => ⟨_, _, h.1⟩
  | _ :: _, _, ⟨_, _, h, _⟩ => ⟨_, _, h⟩

theorem As_plain (e : Value) (t p : Addr) (old : Value) (ws : List ByteArray) (B : Nat) (w : World) (hg : Et w) (hc : Ch w B p ws e) (ht0 : w.cell? t = some old) (hf0 : w.frozen? t = false) (hB : B ≤ t.block) :
    Calls Tryd.prog 16 #[e, .iface 50 (.pointer (some t))] w fun ev w' => ev = .returned (.bool true) ∧ w'.cell? t = some (.pointer (some p)) ∧ Below B w w' := by
  have htl : t.block < w.heap.size := by
    rcases Nat.lt_or_ge t.block w.heap.size with h | h
    · exact h
    · simp [World.cell?, Array.getElem?_eq_none h] at ht0
  obtain ⟨T, ad, rfl⟩ := hc.iface
  refine As_pl T _ t old w _ hg ht0 ?_
  intro w1 a hb ha
  refine (as_pl _ t p a old ws B w1 (hc.on (hb.mono (by omega))) (by rw [hb.cell htl]; exact ht0) (by rw [hb.frozen htl]; exact hf0) hB ha).mono ?_
  rintro ev w2 ⟨rfl, h1, h2⟩
  exact ⟨⟨_, rfl⟩, rfl, h1, (hb.mono (by omega)).trans h2⟩


end Go.Proofs.YthiikldjngamaaaDoor.Er
