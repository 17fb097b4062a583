/- errors.As, by errors.as. -/
import Derived.Test.YtjofkodncplhaaaGreatDoorMErrFacts
import Derived.Deep.LoopGhost
import Derived.Below
import Derived.Lib.Hide
section
namespace Go.Proofs.YtjofkodncplhaaaGreatDoor.Er
open Go.RowKit Go.Extern.Stop Go.Stop Go.Extern

/-- An error that is the plain one at p, wrapped by the texts ws (the outermost first); all below block n. -/
def Ch (w : World) (n : Nat) (p : Addr) : List ByteArray → Value → Prop
  | [], e => e = .iface 55 (.pointer (some p)) ∧ p.block < n
  | s :: ws, e => ∃ b inner, e = .iface 106 (.pointer (some ⟨b, 0, none⟩)) ∧ b < n ∧ w.cell? ⟨b, 0, none⟩ = some (.string s) ∧ w.cell? ⟨b, 1, none⟩ = some inner ∧ Ch w n p ws inner

theorem Ch.on {w w' : World} {n : Nat} {p : Addr} (hb : Below n w w') : ∀ {ws : List ByteArray} {e : Value}, Ch w n p ws e → Ch w' n p ws e
  | [], _, h => h
  | _ :: _, _, ⟨b, inner, h1, h2, h3, h4, h5⟩ => ⟨b, inner, h1, h2, by rw [hb.cell h2]; exact h3, by rw [hb.cell h2]; exact h4, h5.on hb⟩

theorem Ch.up {w : World} {n m : Nat} {p : Addr} (hn : n ≤ m) : ∀ {ws : List ByteArray} {e : Value}, Ch w n p ws e → Ch w m p ws e
  | [], _, h => ⟨h.1, Nat.lt_of_lt_of_le h.2 hn⟩
  | _ :: _, _, ⟨b, inner, h1, h2, h3, h4, h5⟩ => ⟨b, inner, h1, Nat.lt_of_lt_of_le h2 hn, h3, h4, h5.up hn⟩

theorem unwrap_any (a : Addr) (v : Value) (w : World) (ha : w.cell? ⟨a.block, 1, none⟩ = some v) (h0 : a = ⟨a.block, 0, none⟩) :
    Calls Tryz.prog 150 #[.pointer (some a)] w fun e w' => e = .returned v ∧ w' = w := by
  obtain ⟨b, q, r⟩ := a
  simp only at h0 ha
  obtain ⟨rfl, rfl⟩ : q = 0 ∧ r = none := by simpa using h0
  go_enter Tryz.func150, Tryz.ntmps150
  go_wp2
  go_ret
  exact ⟨rfl, rfl⟩

set_option maxHeartbeats 4000000 in
/-- errors.as, the target **fault.plain. -/
theorem as_pl (e : Value) (t p a : Addr) (old : Value) (ws : List ByteArray) (B : Nat) (w : World) (hc : Ch w B p ws e) (ht0 : w.cell? t = some old) (hf0 : w.frozen? t = false) (hB : B ≤ t.block) (ha : w.cell? a = some (.pointer (some t))) :
    Calls Tryz.prog 59 #[e, .iface 57 (.pointer (some t)), .agg #[.pointer (some ⟨4, 57, none⟩), .pointer (some a), .int .u64 150], .iface 110 (.agg #[.pointer (some ⟨4, 55, none⟩)])] w
      fun ev w' => ev = .returned (.bool true) ∧ w'.cell? t = some (.pointer (some p)) ∧ Below B w w' := by
  have x21 := @run_callFunc_extern Tryz.prog 56 _ (fun args => ReflectliteValue.unpack (args.getD 0 (.tuple #[]))) Tryz.func56 (by kernel_rfl) (by kernel_rfl) (by kernel_rfl) (by kernel_rfl)
  have x26 := @run_callFunc_extern Tryz.prog 82 _ ReflectliteType.typeOf Tryz.func82 (by kernel_rfl) (by kernel_rfl) (by kernel_rfl) (by kernel_rfl)
  have x67 := @run_callFunc_extern Tryz.prog 152 _ (ReflectliteType.relation "AssignableTo" ReflectliteType.assignableTo) Tryz.func152 (by kernel_rfl) (by kernel_rfl) (by kernel_rfl) (by kernel_rfl)
  have x28 := @run_callFunc_extern Tryz.prog 83 _ (ReflectliteValue.method (ReflectliteValue.valueError "reflectlite.Value.Elem" 0) ReflectliteValue.elem) Tryz.func83 (by kernel_rfl) (by kernel_rfl) (by kernel_rfl) (by kernel_rfl)
  have x29 := @run_callFunc_extern Tryz.prog 84 _ ReflectliteValue.set Tryz.func84 (by kernel_rfl) (by kernel_rfl) (by kernel_rfl) (by kernel_rfl)
  have t1 := typeOfPl
  have t2 := typeOfWr
  have t3 := methodAssignableTo
  have t4 := assignablePlPl
  have t5 := assignableWrPl
  have t6 := taWrAs
  have t7 := taWrUn
  have t8 := methodUnwrap
  have t9 := valueOfPl
  have htl : t.block < w.heap.size := by
    rcases Nat.lt_or_ge t.block w.heap.size with h | h
    · exact h
    · simp [World.cell?, Array.getElem?_eq_none h] at ht0
  have hal : a.block < w.heap.size := by
    rcases Nat.lt_or_ge a.block w.heap.size with h | h
    · exact h
    · simp [World.cell?, Array.getElem?_eq_none h] at ha
  go_enter Tryz.func59, Tryz.ntmps59
  go_wp2_with fail
  go_loopg [0] (ws.length + 1) (fun k e' wr => ∃ ws', ws'.length < k ∧ Hid (Ch w B p ws' e') ∧ Hid (wr = w.alloc (.cells #[.pointer (some ⟨4, 57, none⟩), .pointer (some a), .int .u64 150] 81)))
  case atStart => exact ⟨ws, by omega, Lib.hid hc, Lib.hid rfl⟩
  case round =>
    obtain ⟨ws', hk, hch, hwr⟩ := hrel
    cases ws' with
    | nil =>
      obtain ⟨rfl, hp⟩ := (show Ch w B p [] _ from hch)
      have hwr' := (show wr = _ from hwr)
      subst hwr'
      clear hch hwr
      have el := elemVPlPl a t (w.alloc (.cells #[.pointer (some ⟨4, 57, none⟩), .pointer (some a), .int .u64 150] 81)) (by rw [World.cell?_alloc_lt _ _ a hal]; exact ha)
      have st := setPl t ⟨w.heap.size + 1, 0, none⟩ p old ((w.alloc (.cells #[.pointer (some ⟨4, 57, none⟩), .pointer (some a), .int .u64 150] 81)).alloc (.cells #[.pointer (some p)] 55))
        (by rw [World.cell?_alloc_at _ _ _ _ (by simp)]; rfl)
        (by rw [World.cell?_alloc_lt _ _ t (by simp; omega), World.cell?_alloc_lt _ _ t htl]; exact ht0)
        (by rw [World.frozen?_alloc_old _ _ t (by simp; omega), World.frozen?_alloc_old _ _ t (Nat.ne_of_lt htl)]; exact hf0)
      go_wp2
      go_ret
      refine ⟨rfl, ?_, ?_⟩
      · exact World.cell?_setCell_same _ t _ (show World.cell? _ t = some old from by rw [World.cell?_alloc_lt _ _ t (by simp; omega), World.cell?_alloc_lt _ _ t htl]; exact ht0)
      · exact (((Below.refl B w).alloc (by omega) _).alloc (by simp; omega) _).setCell hB _
    | cons s ws' =>
      obtain ⟨b, inner, rfl, hb, h0, h1, h2⟩ := (show Ch w B p (s :: ws') _ from hch)
      have hwr' := (show wr = _ from hwr)
      subst hwr'
      obtain ⟨T, ad, rfl⟩ : ∃ T ad, inner = .iface T (.pointer ad) := by
        cases ws' with
        | nil => exact ⟨_, _, h2.1⟩
        | cons s2 ws2 => obtain ⟨_, _, h3, _⟩ := h2; exact ⟨_, _, h3⟩
      have h2' := Lib.hid h2
      clear hch hwr h2
      have hal' : b < w.heap.size := Nat.lt_trans hb (Nat.lt_of_le_of_lt hB htl)
      go_wp2_with fail
      refine (unwrap_any ⟨b, 0, none⟩ _ _ (by rw [World.cell?_alloc_lt _ _ ⟨b, 1, none⟩ hal']; exact h1) rfl).mono ?_
      rintro e' w1 ⟨rfl, rfl⟩
      go_wp2_with fail
      go_roundg (ws'.length + 1)
      case measure => simp at hk; omega
      case rel => exact ⟨ws', by omega, h2', Lib.hid rfl⟩
end Go.Proofs.YtjofkodncplhaaaGreatDoor.Er
end

section
namespace Go.Proofs.YtjofkodncplhaaaGreatDoor.Er
open Go.RowKit Go.Extern.Stop Go.Stop Go.Extern

theorem frozen_set (w : World) (a b : Addr) (v : Value) : (w.setCell a v).frozen? b = w.frozen? b := by
  unfold World.frozen? World.setCell
  by_cases h : a.block = b.block
  · simp only [Array.getElem?_modify, h, if_true]
    cases w.heap[b.block]? with
    | none => rfl
    | some o => cases o <;> rfl
  · simp only [Array.getElem?_modify, h, if_false]


end Go.Proofs.YtjofkodncplhaaaGreatDoor.Er
end

section
namespace Go.Proofs.YtjofkodncplhaaaGreatDoor.Er
open Go.RowKit Go.Extern.Stop Go.Stop Go.Extern

/-- errors.As(nil, ..). -/
theorem As_nil (t : Value) (w : World) :
    Calls Tryz.prog 34 #[.nilIface, t] w fun e w' => e = .returned (.bool false) ∧ w' = w := by
  go_enter Tryz.func34, Tryz.ntmps34
  go_wp2
  go_ret
  exact ⟨rfl, rfl⟩

set_option maxHeartbeats 4000000 in
/-- errors.As at the target **fault.plain: what errors.as tells. -/
theorem As_pl (T : TypeId) (e : Value) (t : Addr) (old : Value) (w : World) (Q : Ending → World → Prop) (hg : w.cell? ⟨0, 0, none⟩ = some (.iface 110 (.agg #[.pointer (some ⟨4, 33, none⟩)]))) (ht0 : w.cell? t = some old)
    (hQ : ∀ w1 a, Below w.heap.size w w1 → w1.cell? a = some (.pointer (some t)) →
      Calls Tryz.prog 59 #[.iface T e, .iface 57 (.pointer (some t)), .agg #[.pointer (some ⟨4, 57, none⟩), .pointer (some a), .int .u64 150], .iface 110 (.agg #[.pointer (some ⟨4, 55, none⟩)])] w1 fun ev w' => (∃ b, ev = .returned (.bool b)) ∧ Q ev w') :
    Calls Tryz.prog 34 #[.iface T e, .iface 57 (.pointer (some t))] w Q := by
  have h6 := @run_callFunc_extern Tryz.prog 56 _ (fun args => ReflectliteValue.unpack (args.getD 0 (.tuple #[]))) Tryz.func56 (by kernel_rfl) (by kernel_rfl) (by kernel_rfl) (by kernel_rfl)
  have h7 := @run_callFunc_extern Tryz.prog 57 _ (ReflectliteValue.methodAny (ReflectliteValue.valueError "reflectlite.Value.Type" 0) (fun t _ _ _ => ReflectliteType.toType t)) Tryz.func57 (by kernel_rfl) (by kernel_rfl) (by kernel_rfl) (by kernel_rfl)
  have h8 := @run_callFunc_extern Tryz.prog 58 _ (ReflectliteValue.method (ReflectliteValue.valueError "reflectlite.Value.IsNil" 0) ReflectliteValue.isNil) Tryz.func58 (by kernel_rfl) (by kernel_rfl) (by kernel_rfl) (by kernel_rfl)
  have h27 := @run_callFunc_extern Tryz.prog 141 _ (ReflectliteType.abiMethod fun t => do pure (.int .u8 (← Rtype.kind t))) Tryz.func141 (by kernel_rfl) (by kernel_rfl) (by kernel_rfl) (by kernel_rfl)
  have h37 := @run_callFunc_extern Tryz.prog 154 _ (ReflectliteType.method ReflectliteType.elem) Tryz.func154 (by kernel_rfl) (by kernel_rfl) (by kernel_rfl) (by kernel_rfl)
  have h38 := @run_callFunc_extern Tryz.prog 155 _ (ReflectliteType.relation "Implements" ReflectliteType.implements_) Tryz.func155 (by kernel_rfl) (by kernel_rfl) (by kernel_rfl) (by kernel_rfl)
  have f6 := valueOfPlPl
  have f7 := typePlPl
  have mK := methodKind
  have mE := methodElem
  have mI := methodImplements
  have k27 := kindPlPl
  have k25 := kindPl
  have e27 := elemPlPl
  have i25 := implementsPl
  have n8 := isNilPlPl ⟨w.heap.size, 0, none⟩ t ((w.alloc (.cells #[.pointer (some t)] 57)).alloc (.cells #[.pointer (some ⟨4, 57, none⟩), .pointer (some ⟨w.heap.size, 0, none⟩), .int .u64 150] 81)) (by simp)
  have hlt : 0 < w.heap.size := by
    rcases Nat.lt_or_ge 0 w.heap.size with h | h
    · exact h
    · simp [World.cell?, Array.getElem?_eq_none h] at hg
  have hg2 : ((w.alloc (.cells #[.pointer (some t)] 57)).alloc (.cells #[.pointer (some ⟨4, 57, none⟩), .pointer (some ⟨w.heap.size, 0, none⟩), .int .u64 150] 81)).cell? ⟨0, 0, none⟩ = some (.iface 110 (.agg #[.pointer (some ⟨4, 33, none⟩)])) := by
    rw [World.cell?_alloc_lt _ _ ⟨0, 0, none⟩ (by simp), World.cell?_alloc_lt _ _ ⟨0, 0, none⟩ hlt]; exact hg
  have hQ' := hQ
  have hH := Lib.hid hQ
  clear hQ hQ'
  go_enter Tryz.func34, Tryz.ntmps34
  go_wp2_with fail
  refine (hH.out _ ⟨w.heap.size, 0, none⟩ (((Below.refl _ w).alloc (Nat.le_refl _) _).alloc (by simp) _) (by simp)).mono ?_
  rintro ev w1 ⟨⟨b, rfl⟩, hq⟩
  have hq' := Lib.hid hq
  clear hq
  go_wp2_with fail
  exact hq'


/-- What the row's list gives of errors.errorType. -/
def Et (w : World) : Prop := w.cell? ⟨0, 0, none⟩ = some (.iface 110 (.agg #[.pointer (some ⟨4, 33, none⟩)]))

theorem Ch.iface {w : World} {n : Nat} {p : Addr} : ∀ {ws : List ByteArray} {e : Value}, Ch w n p ws e → ∃ T ad, e = .iface T (.pointer (some ad))
  | [], _, h => ⟨_, _, h.1⟩
  | _ :: _, _, ⟨_, _, h, _⟩ => ⟨_, _, h⟩

theorem As_plain (e : Value) (t p : Addr) (old : Value) (ws : List ByteArray) (B : Nat) (w : World) (hg : Et w) (hc : Ch w B p ws e) (ht0 : w.cell? t = some old) (hf0 : w.frozen? t = false) (hB : B ≤ t.block) :
    Calls Tryz.prog 34 #[e, .iface 57 (.pointer (some t))] w fun ev w' => ev = .returned (.bool true) ∧ w'.cell? t = some (.pointer (some p)) ∧ Below B w w' := by
  have htl : t.block < w.heap.size := by
    rcases Nat.lt_or_ge t.block w.heap.size with h | h
    · exact h
    · simp [World.cell?, Array.getElem?_eq_none h] at ht0
  obtain ⟨T, ad, rfl⟩ := hc.iface
  refine As_pl T _ t old w _ hg ht0 ?_
  intro w1 a hb ha
  refine (as_pl _ t p a old ws B w1 (hc.on (hb.mono (by omega))) (by rw [hb.cell htl]; exact ht0) (by rw [hb.frozen htl]; exact hf0) hB ha).mono ?_
  rintro ev w2 ⟨rfl, h1, h2⟩
  exact ⟨⟨_, rfl⟩, rfl, h1, (hb.mono (by omega)).trans h2⟩


end Go.Proofs.YtjofkodncplhaaaGreatDoor.Er
end
