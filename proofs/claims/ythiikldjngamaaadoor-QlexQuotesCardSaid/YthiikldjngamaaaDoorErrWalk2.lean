/- The walks of the layer fault, second part: At, Depth, a plain error's text. -/
import Derived.Test.YthiikldjngamaaaDoorErrWalk
namespace Go.Proofs.YthiikldjngamaaaDoor.Er
open Go.RowKit

theorem At_ok (w : World) :
    Calls Tryd.prog 11 #[.nilIface] w fun e' w' => e' = .returned (.int .i64 0) ∧ Below w.heap.size w w' := by
  have hb : Below w.heap.size w (w.alloc (.cells #[.pointer none] 48)) := below_alloc _ _
  go_enter Tryd.func11, Tryd.ntmps11
  go_wp2_with fail
  refine (As_nil _ _).mono ?_
  rintro e' w1 ⟨rfl, rfl⟩
  have hb2 := Lib.hid hb
  clear hb
  go_wp2
  go_ret
  exact ⟨rfl, hb2⟩

theorem At_any (code at_ : Int) (ws : List ByteArray) (e : Value) (B : Nat) (w : World) (hE : En B w) (h : Fe w w.heap.size code at_ ws e) :
    Calls Tryd.prog 11 #[e] w fun e' w' => e' = .returned (.int .i64 at_) ∧ Below w.heap.size w w' := by
  have hb : Below w.heap.size w (w.alloc (.cells #[.pointer none] 48)) := below_alloc _ _
  have hE1 := Lib.hid (hE.sz hb)
  have h1 := Lib.hid (h.on hb)
  clear h hE
  go_enter Tryd.func11, Tryd.ntmps11
  go_wp2_with fail
  obtain ⟨b, b1, b2, b3, b4⟩ := h1.out
  refine (As_plain _ ⟨w.heap.size, 0, none⟩ _ (.pointer none) _ w.heap.size _ hE1.out.et b2 (by simp) (by simp) (Nat.le_refl _)).mono ?_
  rintro e' w1 ⟨rfl, c1, c2⟩
  have c3 : w1.cell? ⟨b, 1, none⟩ = some (.int .i64 at_) := by rw [c2.cell b1]; exact b4
  have hb2 := Lib.hid (hb.trans c2)
  clear hb hE1 h1 b2 b3 b4 c2
  go_wp2
  go_ret
  exact ⟨rfl, hb2⟩


end Go.Proofs.YthiikldjngamaaaDoor.Er
