/- What the rows' list gives from a block on; errors of segments. -/
import Derived.Test.YtfdpnjebhllpkaaGreatDoorMErrWalk2
import Derived.Test.YtfdpnjebhllpkaaGreatDoorMManGen
namespace Go.Proofs.YtfdpnjebhllpkaaGreatDoor.Sg
open Go.RowKit Ma

/-- What the list gives, from block B on: the table of tens. -/
structure Te (B : Nat) (w : World) : Prop where
  le : B ≤ w.heap.size
  tab : Lib.TabBelow Tryz.prog B w "internal/strconv.uint64pow10" .u64 Lib.pow10Tab
theorem Te.on {B : Nat} {w w' : World} (h : Te B w) (hb : Below B w w') : Te B w' := ⟨Nat.le_trans h.le hb.size, h.tab.on hb⟩
theorem Te.sz {B : Nat} {w w' : World} (h : Te B w) (hb : Below w.heap.size w w') : Te B w' := h.on (hb.mono h.le)
theorem Te.tens {B : Nat} {w : World} (h : Te B w) : Nu.Tens w := fun w'' hb => h.tab w'' (hb.mono h.le)
theorem Te.of {B : Nat} {w : World} (h : Er.En B w) : Te B w := ⟨h.le, h.tab⟩
/-- The two errors of strconv, from block B on. -/
structure Eb (B : Nat) (w : World) : Prop where
  ev : Ev w
  syn : 1 < B
  rng : 2 < B
theorem Eb.on {B : Nat} {w w' : World} (h : Eb B w) (hb : Below B w w') : Eb B w' :=
  ⟨⟨by obtain ⟨tp, p, h1⟩ := h.ev.syn; exact ⟨tp, p, by rw [hb.cell h.syn]; exact h1⟩, by obtain ⟨tp, p, h1⟩ := h.ev.rng; exact ⟨tp, p, by rw [hb.cell h.rng]; exact h1⟩⟩, h.syn, h.rng⟩

/-- "segment" -/
def segT : ByteArray := ⟨#[115, 101, 103, 109, 101, 110, 116]⟩

/-- An error of a code and a place, wrapped once: its two blocks, whole. -/
def ErrB (w : World) (code at_ : Int) (t : ByteArray) (e : Value) : Prop :=
  ∃ b b2, e = .iface 206 (.pointer (some ⟨b2, 0, none⟩)) ∧ w.heap[b2]? = some (.cells #[.string t, .iface 124 (.pointer (some ⟨b, 0, none⟩))] 208) ∧
    w.heap[b]? = some (.cells #[.int .i64 code, .int .i64 at_] 128)
theorem ErrB.fe {w : World} {code at_ : Int} {t : ByteArray} {e : Value} (h : ErrB w code at_ t e) : Er.Fe w w.heap.size code at_ [t] e := by
  obtain ⟨b, b2, rfl, h1, h2⟩ := h
  have l1 := (Array.getElem?_eq_some_iff.1 h1).1
  have l2 := (Array.getElem?_eq_some_iff.1 h2).1
  exact ⟨b, l2, ⟨b2, _, rfl, l1, by simp [World.cell?, h1], by simp [World.cell?, h1], rfl, l2⟩, by simp [World.cell?, h2], by simp [World.cell?, h2]⟩
theorem ErrB.below {w w' : World} {code at_ : Int} {t : ByteArray} {e : Value} (h : ErrB w code at_ t e) (hb : Below w.heap.size w w') : ErrB w' code at_ t e := by
  obtain ⟨b, b2, rfl, h1, h2⟩ := h
  exact ⟨b, b2, rfl, (hb.block b2 (Array.getElem?_eq_some_iff.1 h1).1).trans h1, (hb.block b (Array.getElem?_eq_some_iff.1 h2).1).trans h2⟩

theorem NewT (code at_ : Int) (hc : code ≠ 0) (w : World) :
    Calls Tryz.prog 125 #[.int .i64 code, .int .i64 at_] w fun e w' => e = .returned (.iface 124 (.pointer (some ⟨w.heap.size, 0, none⟩))) ∧ w' = w.alloc (.cells #[.int .i64 code, .int .i64 at_] 128) := by
  have hc' : (code == 0) = false := by simpa using hc
  go_enter Tryz.func125, Tryz.ntmps125
  go_wp2
  go_ret
  exact ⟨rfl, rfl⟩
theorem WrapT (s : ByteArray) (T : TypeId) (ad : Addr) (w : World) :
    Calls Tryz.prog 124 #[.string s, .iface T (.pointer (some ad))] w fun e w' => e = .returned (.iface 206 (.pointer (some ⟨w.heap.size, 0, none⟩))) ∧ w' = w.alloc (.cells #[.string s, .iface T (.pointer (some ad))] 208) := by
  go_enter Tryz.func124, Tryz.ntmps124
  go_wp2
  go_ret
  exact ⟨rfl, rfl⟩
theorem errB_new (w : World) (code n : Int) (t : ByteArray) : ErrB ((w.alloc (.cells #[.int .i64 code, .int .i64 n] 128)).alloc (.cells #[.string t, .iface 124 (.pointer (some ⟨w.heap.size, 0, none⟩))] 208)) code n t
    (.iface 206 (.pointer (some ⟨w.heap.size + 1, 0, none⟩))) := by
  refine ⟨w.heap.size, w.heap.size + 1, rfl, ?_, ?_⟩
  · have := heap_alloc_new (w.alloc (.cells #[.int .i64 code, .int .i64 n] 128)) (.cells #[.string t, .iface 124 (.pointer (some ⟨w.heap.size, 0, none⟩))] 208)
    simpa using this
  · have h1 := heap_alloc_new w (.cells #[.int .i64 code, .int .i64 n] 128)
    exact ((below_alloc (w.alloc (.cells #[.int .i64 code, .int .i64 n] 128)) _).block w.heap.size (by simp)).trans h1

theorem fail_any (code n : Int) (hc : code ≠ 0) (w : World) :
    Calls Tryz.prog 69 #[.int .i64 code, .int .i64 n] w fun e w' => ∃ v, e = .returned v ∧ Below w.heap.size w w' ∧ ErrB w' code n segT v := by
  go_enter Tryz.func69, Tryz.ntmps69
  go_wp2_with fail
  refine (NewT code n hc w).mono ?_
  rintro e w1 ⟨rfl, rfl⟩
  go_wp2_with fail
  refine (WrapT segT _ _ _).mono ?_
  rintro e w2 ⟨rfl, rfl⟩
  have hb := Lib.hid ((below_alloc w (.cells #[.int .i64 code, .int .i64 n] 128)).trans ((below_alloc (w.alloc (.cells #[.int .i64 code, .int .i64 n] 128)) (.cells #[.string segT, .iface 124 (.pointer (some ⟨w.heap.size, 0, none⟩))] 208)).mono (by simp)))
  have he := Lib.hid (errB_new w code n segT)
  go_wp2_with fail
  go_ret
  exact ⟨_, rfl, hb.out, by simpa using he.out⟩
end Go.Proofs.YtfdpnjebhllpkaaGreatDoor.Sg
