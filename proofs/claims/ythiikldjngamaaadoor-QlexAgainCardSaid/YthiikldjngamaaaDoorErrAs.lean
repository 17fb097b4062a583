/- errors.As at the targets **fault.plain and **fault.wrapped, over chains of fault's errors. -/
import Derived.Test.YthiikldjngamaaaDoorErrFacts
import Derived.Deep.LoopGhost
import Derived.Below
import Derived.Lib.Hide
namespace Go.Proofs.YthiikldjngamaaaDoor.Er
open Go.RowKit Go.Extern.Stop Go.Stop Go.Extern

/-- An error that is the plain one at p, wrapped by the texts ws (the outermost first); all below block n. -/
def Ch (w : World) (n : Nat) (p : Addr) : List ByteArray → Value → Prop
  | [], e => e = .iface 48 (.pointer (some p)) ∧ p.block < n
  | s :: ws, e => ∃ b inner, e = .iface 56 (.pointer (some ⟨b, 0, none⟩)) ∧ b < n ∧ w.cell? ⟨b, 0, none⟩ = some (.string s) ∧ w.cell? ⟨b, 1, none⟩ = some inner ∧ Ch w n p ws inner

theorem Ch.on {w w' : World} {n : Nat} {p : Addr} (hb : Below n w w') : ∀ {ws : List ByteArray} {e : Value}, Ch w n p ws e → Ch w' n p ws e
  | [], _, h => h
  | _ :: _, _, ⟨b, inner, h1, h2, h3, h4, h5⟩ => ⟨b, inner, h1, h2, by rw [hb.cell h2]; exact h3, by rw [hb.cell h2]; exact h4, h5.on hb⟩

theorem Ch.up {w : World} {n m : Nat} {p : Addr} (hn : n ≤ m) : ∀ {ws : List ByteArray} {e : Value}, Ch w n p ws e → Ch w m p ws e
  | [], _, h => ⟨h.1, Nat.lt_of_lt_of_le h.2 hn⟩
  | _ :: _, _, ⟨b, inner, h1, h2, h3, h4, h5⟩ => ⟨b, inner, h1, Nat.lt_of_lt_of_le h2 hn, h3, h4, h5.up hn⟩

theorem unwrap_any (a : Addr) (v : Value) (w : World) (ha : w.cell? ⟨a.block, 1, none⟩ = some v) (h0 : a = ⟨a.block, 0, none⟩) :
    Calls Tryd.prog 88 #[.pointer (some a)] w fun e w' => e = .returned v ∧ w' = w := by
  obtain ⟨b, q, r⟩ := a
  simp only at h0 ha
  obtain ⟨rfl, rfl⟩ : q = 0 ∧ r = none := by simpa using h0
  go_enter Tryd.func88, Tryd.ntmps88
  go_wp2
  go_ret
  exact ⟨rfl, rfl⟩

set_option maxHeartbeats 4000000 in
/-- errors.as, the target **fault.plain. -/
theorem as_pl (e : Value) (t p a : Addr) (old : Value) (ws : List ByteArray) (B : Nat) (w : World) (hc : Ch w B p ws e) (ht0 : w.cell? t = some old) (hf0 : w.frozen? t = false) (hB : B ≤ t.block) (ha : w.cell? a = some (.pointer (some t))) :
    Calls Tryd.prog 24 #[e, .iface 50 (.pointer (some t)), .agg #[.pointer (some ⟨4, 50, none⟩), .pointer (some a), .int .u64 150], .iface 78 (.agg #[.pointer (some ⟨4, 48, none⟩)])] w
      fun ev w' => ev = .returned (.bool true) ∧ w'.cell? t = some (.pointer (some p)) ∧ Below B w w' := by
  have x21 := @run_callFunc_extern Tryd.prog 21 _ (fun args => ReflectliteValue.unpack (args.getD 0 (.tuple #[]))) Tryd.func21 (by kernel_rfl) (by kernel_rfl) (by kernel_rfl) (by kernel_rfl)
  have x26 := @run_callFunc_extern Tryd.prog 38 _ ReflectliteType.typeOf Tryd.func38 (by kernel_rfl) (by kernel_rfl) (by kernel_rfl) (by kernel_rfl)
  have x67 := @run_callFunc_extern Tryd.prog 93 _ (ReflectliteType.relation "AssignableTo" ReflectliteType.assignableTo) Tryd.func93 (by kernel_rfl) (by kernel_rfl) (by kernel_rfl) (by kernel_rfl)
  have x28 := @run_callFunc_extern Tryd.prog 39 _ (ReflectliteValue.method (ReflectliteValue.valueError "reflectlite.Value.Elem" 0) ReflectliteValue.elem) Tryd.func39 (by kernel_rfl) (by kernel_rfl) (by kernel_rfl) (by kernel_rfl)
  have x29 := @run_callFunc_extern Tryd.prog 40 _ ReflectliteValue.set Tryd.func40 (by kernel_rfl) (by kernel_rfl) (by kernel_rfl) (by kernel_rfl)
  have t1 := typeOfPl
  have t2 := typeOfWr
  have t3 := methodAssignableTo
  have t4 := assignablePlPl
  have t5 := assignableWrPl
  have t6 := taWrAs
  have t7 := taWrUn
  have t8 := methodUnwrap
  have t9 := valueOfPl
  have htl : t.block < w.heap.size := by
    rcases Nat.lt_or_ge t.block w.heap.size with h | h
    · exact h
    · simp [World.cell?, Array.getElem?_eq_none h] at ht0
  have hal : a.block < w.heap.size := by
    rcases Nat.lt_or_ge a.block w.heap.size with h | h
    · exact h
    · simp [World.cell?, Array.getElem?_eq_none h] at ha
  go_enter Tryd.func24, Tryd.ntmps24
  go_wp2_with fail
  go_loopg [0] (ws.length + 1) (fun k e' wr => ∃ ws', ws'.length < k ∧ Hid (Ch w B p ws' e') ∧ Hid (wr = w.alloc (.cells #[.pointer (some ⟨4, 50, none⟩), .pointer (some a), .int .u64 150] 62)))
  case atStart => exact ⟨ws, by omega, Lib.hid hc, Lib.hid rfl⟩
  case round =>
    obtain ⟨ws', hk, hch, hwr⟩ := hrel
    cases ws' with
    | nil =>
      obtain ⟨rfl, hp⟩ := (show Ch w B p [] _ from hch)
      have hwr' := (show wr = _ from hwr)
      subst hwr'
      clear hch hwr
      have el := elemVPlPl a t (w.alloc (.cells #[.pointer (some ⟨4, 50, none⟩), .pointer (some a), .int .u64 150] 62)) (by rw [World.cell?_alloc_lt _ _ a hal]; exact ha)
      have st := setPl t ⟨w.heap.size + 1, 0, none⟩ p old ((w.alloc (.cells #[.pointer (some ⟨4, 50, none⟩), .pointer (some a), .int .u64 150] 62)).alloc (.cells #[.pointer (some p)] 48))
        (by rw [World.cell?_alloc_at _ _ _ _ (by simp)]; rfl)
        (by rw [World.cell?_alloc_lt _ _ t (by simp; omega), World.cell?_alloc_lt _ _ t htl]; exact ht0)
        (by rw [World.frozen?_alloc_old _ _ t (by simp; omega), World.frozen?_alloc_old _ _ t (Nat.ne_of_lt htl)]; exact hf0)
      go_wp2
      go_ret
      refine ⟨rfl, ?_, ?_⟩
      · exact World.cell?_setCell_same _ t _ (show World.cell? _ t = some old from by rw [World.cell?_alloc_lt _ _ t (by simp; omega), World.cell?_alloc_lt _ _ t htl]; exact ht0)
      · exact (((Below.refl B w).alloc (by omega) _).alloc (by simp; omega) _).setCell hB _
    | cons s ws' =>
      obtain ⟨b, inner, rfl, hb, h0, h1, h2⟩ := (show Ch w B p (s :: ws') _ from hch)
      have hwr' := (show wr = _ from hwr)
      subst hwr'
      obtain ⟨T, ad, rfl⟩ : ∃ T ad, inner = .iface T (.pointer ad) := by
        cases ws' with
        | nil => exact ⟨_, _, h2.1⟩
        | cons s2 ws2 => obtain ⟨_, _, h3, _⟩ := h2; exact ⟨_, _, h3⟩
      have h2' := Lib.hid h2
      clear hch hwr h2
      have hal' : b < w.heap.size := Nat.lt_trans hb (Nat.lt_of_le_of_lt hB htl)
      go_wp2_with fail
      refine (unwrap_any ⟨b, 0, none⟩ _ _ (by rw [World.cell?_alloc_lt _ _ ⟨b, 1, none⟩ hal']; exact h1) rfl).mono ?_
      rintro e' w1 ⟨rfl, rfl⟩
      go_wp2_with fail
      go_roundg (ws'.length + 1)
      case measure => simp at hk; omega
      case rel => exact ⟨ws', by omega, h2', Lib.hid rfl⟩
end Go.Proofs.YthiikldjngamaaaDoor.Er
