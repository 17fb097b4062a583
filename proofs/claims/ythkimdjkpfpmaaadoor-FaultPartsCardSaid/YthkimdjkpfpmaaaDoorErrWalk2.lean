/- The walks of the layer fault, second part: At, Depth, a plain error's text. -/
import Derived.Test.YthkimdjkpfpmaaaDoorErrWalk
namespace Go.Proofs.YthkimdjkpfpmaaaDoor.Er
open Go.RowKit

theorem At_ok (w : World) :
    Calls Tryd.prog 14 #[.nilIface] w fun e' w' => e' = .returned (.int .i64 0) ∧ Below w.heap.size w w' := by
  have hb : Below w.heap.size w (w.alloc (.cells #[.pointer none] 44)) := below_alloc _ _
  go_enter Tryd.func14, Tryd.ntmps14
  go_wp2_with fail
  refine (As_nil _ _).mono ?_
  rintro e' w1 ⟨rfl, rfl⟩
  have hb2 := Lib.hid hb
  clear hb
  go_wp2
  go_ret
  exact ⟨rfl, hb2⟩

theorem At_any (code at_ : Int) (ws : List ByteArray) (e : Value) (B : Nat) (w : World) (hE : En B w) (h : Fe w w.heap.size code at_ ws e) :
    Calls Tryd.prog 14 #[e] w fun e' w' => e' = .returned (.int .i64 at_) ∧ Below w.heap.size w w' := by
  have hb : Below w.heap.size w (w.alloc (.cells #[.pointer none] 44)) := below_alloc _ _
  have hE1 := Lib.hid (hE.sz hb)
  have h1 := Lib.hid (h.on hb)
  clear h hE
  go_enter Tryd.func14, Tryd.ntmps14
  go_wp2_with fail
  obtain ⟨b, b1, b2, b3, b4⟩ := h1.out
  refine (As_plain _ ⟨w.heap.size, 0, none⟩ _ (.pointer none) _ w.heap.size _ hE1.out.et b2 (by simp) (by simp) (Nat.le_refl _)).mono ?_
  rintro e' w1 ⟨rfl, c1, c2⟩
  have c3 : w1.cell? ⟨b, 1, none⟩ = some (.int .i64 at_) := by rw [c2.cell b1]; exact b4
  have hb2 := Lib.hid (hb.trans c2)
  clear hb hE1 h1 b2 b3 b4 c2
  go_wp2
  go_ret
  exact ⟨rfl, hb2⟩

theorem Depth_ok (w : World) :
    Calls Tryd.prog 10 #[.nilIface] w fun e' w' => e' = .returned (.int .i64 0) ∧ Below w.heap.size w w' := by
  have hb : Below w.heap.size w (w.alloc (.cells #[.pointer none] 39)) := below_alloc _ _
  go_enter Tryd.func10, Tryd.ntmps10
  go_wp2_with fail
  refine wp_loop_rounds 1 ?_
  rw [rounds_succ]
  go_wp2_with fail
  refine (As_nil _ _).mono ?_
  rintro e' w1 ⟨rfl, rfl⟩
  have hb2 := Lib.hid hb
  clear hb
  go_wp2
  go_ret
  exact ⟨rfl, hb2⟩

set_option maxHeartbeats 1000000 in
theorem Depth_any (code at_ : Int) (ws : List ByteArray) (hw : ws.length ≤ 1000) (e : Value) (B : Nat) (w : World) (hE : En B w) (h : Fe w w.heap.size code at_ ws e) :
    Calls Tryd.prog 10 #[e] w fun e' w' => e' = .returned (.int .i64 (ws.length : Nat)) ∧ Below w.heap.size w w' := by
  have hb : Below w.heap.size w (w.alloc (.cells #[.pointer none] 39)) := below_alloc _ _
  have hE1 := Lib.hid (hE.sz hb)
  have h1 := Lib.hid (h.on hb)
  have hB := hE.le
  clear h hE
  have hb' := Lib.hid hb
  clear hb
  go_enter Tryd.func10, Tryd.ntmps10
  go_wp2_with fail
  go_loopg [0, 3] (ws.length + 1) (fun k e' nn wr => ∃ (ws' : List ByteArray) (j : Nat) (x : Value), ws'.length < k ∧ Hid (ws'.length + j = ws.length) ∧ nn = .int .i64 (j : Nat) ∧ Hid (Fe wr w.heap.size code at_ ws' e') ∧ Hid (Below w.heap.size w wr) ∧ Hid (En B wr) ∧
    wr.cell? ⟨w.heap.size, 0, none⟩ = some x ∧ wr.frozen? ⟨w.heap.size, 0, none⟩ = false)
  case atStart => exact ⟨ws, 0, _, by omega, Lib.hid (by omega), rfl, h1, hb', hE1, by simp; rfl, by simp⟩
  case round =>
    obtain ⟨ws', j, x, hk, hj, rfl, hf, hbr, hEr, ht, hz⟩ := hrel
    cases ws' with
    | nil =>
      obtain ⟨b, b1, ⟨rfl, b2⟩, b3, b4⟩ := hf.out
      clear hf b3 b4 b2
      go_wp2_with fail
      refine (As_wrap_none ⟨w.heap.size, 0, none⟩ _ x _ hEr.out.et ht).mono ?_
      rintro e' w1 ⟨rfl, c1⟩
      have hb2 := Lib.hid (hbr.out.trans (c1.mono hbr.out.size))
      clear c1 hbr ht hz hEr
      go_wp2
      go_ret
      have := hj.out
      simp at this
      subst this
      exact ⟨rfl, hb2⟩
    | cons s ws' =>
      obtain ⟨b, b1, ⟨q, inner, rfl, q1, q2, q3, q4⟩, b3, b4⟩ := hf.out
      have hj2 : j + 1 ≤ 1000 := by
        have := hj.out
        simp at this
        omega
      go_wp2_with fail
      refine (As_wrap ⟨w.heap.size, 0, none⟩ ⟨q, 0, none⟩ x w.heap.size _ hEr.out.et ht hz (Nat.le_refl _)).mono ?_
      rintro e' w1 ⟨rfl, c1, c2, c3⟩
      have d1 : w1.cell? ⟨q, 1, none⟩ = some inner := by rw [c3.cell q1]; exact q3
      have hf2 : Hid (Fe w1 w.heap.size code at_ ws' inner) := ⟨b, b1, q4.on c3, by rw [c3.cell b1]; exact b3, by rw [c3.cell b1]; exact b4⟩
      have hb2 := Lib.hid (hbr.out.trans c3)
      have hE2 := Lib.hid (hEr.out.on (c3.mono hB))
      clear hf hbr hEr ht hz q2 q3 q4 b3 b4 c3
      go_wp2
      go_roundg (ws'.length + 1)
      case measure => simp at hk; omega
      case rel => exact ⟨ws', j + 1, _, by omega, Lib.hid (by have := hj.out; simp at this; omega), by go_num, hf2, hb2, hE2, c1, c2⟩
end Go.Proofs.YthkimdjkpfpmaaaDoor.Er
