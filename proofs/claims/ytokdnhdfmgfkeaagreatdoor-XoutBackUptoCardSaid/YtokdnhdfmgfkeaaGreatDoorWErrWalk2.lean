/- The walks of the layer fault, second part: At, Depth, a plain error's text. -/
import Derived.Test.YtokdnhdfmgfkeaaGreatDoorWUtfMath
import Derived.Test.YtokdnhdfmgfkeaaGreatDoorWErrAs3
import Derived.Test.YtokdnhdfmgfkeaaGreatDoorWUtfEnc
import Derived.Lib.AppendIntMem
import Derived.Lib.SmallJoins
import Derived.Deep.Draws
import Derived.Deep.DeepCutAuto
set_option linter.unusedVariables false
set_option linter.unusedSimpArgs false
section
namespace Go.Proofs.YtokdnhdfmgfkeaaGreatDoor.Er
open Go.RowKit
structure En (B : Nat) (w : World) : Prop where
 et : Et w
 lt : 0 < B
 le : B <= w.heap.size
theorem En.on {B : Nat} {w w' : World} (h : En B w) (hb : Below B w w') : En B w' :=
 ⟨by unfold Et; rw [hb.cell h.lt]; exact h.et, h.lt, Nat.le_trans h.le hb.size⟩
theorem En.sz {B : Nat} {w w' : World} (h : En B w) (hb : Below w.heap.size w w') : En B w' := h.on (hb.mono h.le)
def Fe (w : World) (n : Nat) (code at_ : Int) (ws : List ByteArray) (e : Value) : Prop :=
 ∃ b, b < n /\ Ch w n ⟨b, 0, none⟩ ws e /\ w.cell? ⟨b, 0, none⟩ = some (.int .i64 code) /\ w.cell? ⟨b, 1, none⟩ = some (.int .i64 at_)
theorem Fe.on {w w' : World} {n : Nat} {code at_ : Int} {ws : List ByteArray} {e : Value} (h : Fe w n code at_ ws e) (hb : Below n w w') : Fe w' n code at_ ws e := by
 obtain ⟨b, h1, h2, h3, h4⟩ := h;exact ⟨b, h1, h2.on hb, by rw [hb.cell h1]; exact h3, by rw [hb.cell h1]; exact h4⟩
theorem Fe.up {w : World} {n m : Nat} {code at_ : Int} {ws : List ByteArray} {e : Value} (h : Fe w n code at_ ws e) (hn : n <= m) : Fe w m code at_ ws e := by
 obtain ⟨b, h1, h2, h3, h4⟩ := h;exact ⟨b, Nat.lt_of_lt_of_le h1 hn, h2.up hn, h3, h4⟩
theorem Fe.iface {w : World} {n : Nat} {code at_ : Int} {ws : List ByteArray} {e : Value} (h : Fe w n code at_ ws e) : ∃ T ad, e = .iface T (.pointer (some ad)) := by
 obtain ⟨b, h1, h2, h3, h4⟩ := h;exact h2.iface
theorem New_any (code at_ : Int) (hc : code ≠ 0) (w : World) :
  Calls Tryz.prog 39 #[.int .i64 code, .int .i64 at_] w fun e w' => ∃ v, e = .returned v /\ Below w.heap.size w w' /\ Fe w' w'.heap.size code at_ [] v := by
 have hc' : (code == 0) = false := by simpa using hc
 go_enter Tryz.func39, Tryz.ntmps39
 go_wp2
 go_ret;refine ⟨_, rfl, below_alloc _ _, w.heap.size, by simp, ⟨rfl, by simp⟩, by simp, by simp⟩
theorem Wrap_any (s : ByteArray) (code at_ : Int) (ws : List ByteArray) (e : Value) (w : World) (h : Fe w w.heap.size code at_ ws e) :
  Calls Tryz.prog 38 #[.string s, e] w fun e' w' => ∃ v, e' = .returned v /\ Below w.heap.size w w' /\ Fe w' w'.heap.size code at_ (s :: ws) v := by
 obtain ⟨T, ad, rfl⟩ := h.iface;have h' := Hd h;clear h
 go_enter Tryz.func38, Tryz.ntmps38
 go_wp2
 go_ret;have hb : Below w.heap.size w (w.alloc (.cells #[.string s, .iface T (.pointer (some ad))] 101)) := below_alloc _ _;obtain ⟨b, h1, h2, h3, h4⟩ := (h'.out.on hb).up hb.size;exact ⟨_, rfl, hb, b, h1, ⟨w.heap.size, _, rfl, by simp, by simp, by simp, h2⟩, h3, h4⟩
theorem Code_ok (w : World) :
  Calls Tryz.prog 22 #[.nilIface] w fun e' w' => e' = .returned (.int .i64 0) /\ Below w.heap.size w w' := by
 go_enter Tryz.func22, Tryz.ntmps22
 go_wp2
 go_ret;exact ⟨rfl, below_alloc _ _⟩
theorem Code_any (code at_ : Int) (ws : List ByteArray) (e : Value) (B : Nat) (w : World) (hE : En B w) (h : Fe w w.heap.size code at_ ws e) :
  Calls Tryz.prog 22 #[e] w fun e' w' => e' = .returned (.int .i64 code) /\ Below w.heap.size w w' := by
 have hb : Below w.heap.size w (w.alloc (.cells #[.pointer none] 74)) := below_alloc _ _;have hE1 := Hd (hE.sz hb);have h1 := Hd (h.on hb);obtain ⟨T, ad, rfl⟩ := h.iface;clear h hE
 go_enter Tryz.func22, Tryz.ntmps22
 go_wp2_with fail;obtain ⟨b, b1, b2, b3, b4⟩ := h1.out;refine (As_plain _ ⟨w.heap.size, 0, none⟩ _ (.pointer none) _ w.heap.size _ hE1.out.et b2 (by simp) (by simp) (Nat.le_refl _)).mono ?_;rintro e' w1 ⟨rfl, c1, c2⟩;have c3 : w1.cell? ⟨b, 0, none⟩ = some (.int .i64 code) := by rw [c2.cell b1]; exact b3
 have hb2 := Hd (hb.trans c2);clear hb hE1 h1 b2 b3 b4 c2
 go_wp2
 go_ret;exact ⟨rfl, hb2⟩
end Go.Proofs.YtokdnhdfmgfkeaaGreatDoor.Er
end

section
namespace Go.Proofs.YtokdnhdfmgfkeaaGreatDoor.Er
open Go.RowKit
end Go.Proofs.YtokdnhdfmgfkeaaGreatDoor.Er
end
