/- The walks of the layer fault, fourth part: Text. -/
import Derived.Test.YthkimdjkpfpmaaaDoorErrWalk3
namespace Go.Proofs.YthkimdjkpfpmaaaDoor.Er
open Go.RowKit

/-- What the wraps put ahead. -/
def tx (ws : List ByteArray) : ByteArray := ws.foldl (fun a s => a ++ (s ++ kColon)) ⟨#[]⟩

theorem tx_snoc (ws : List ByteArray) (s : ByteArray) : tx (ws ++ [s]) = tx ws ++ (s ++ kColon) := by
  unfold tx
  rw [List.foldl_append]
  rfl

theorem kColon_size : kColon.size = 2 := rfl

theorem tx_size (ws : List ByteArray) (hz : ∀ s ∈ ws, s.size ≤ 140737488351232) : (tx ws).size ≤ ws.length * 140737488351234 := by
  have key : ∀ (ws : List ByteArray) (a : ByteArray), (∀ s ∈ ws, s.size ≤ 140737488351232) → (ws.foldl (fun a s => a ++ (s ++ kColon)) a).size ≤ a.size + ws.length * 140737488351234 := by
    intro ws
    induction ws with
    | nil => intro a _; simp
    | cons s ws ih =>
      intro a h
      rw [List.foldl_cons]
      refine Nat.le_trans (ih _ fun x hx => h x (List.mem_cons_of_mem _ hx)) ?_
      rw [ByteArray.size_append, ByteArray.size_append, kColon_size, List.length_cons, Nat.succ_mul]
      have := h s (List.mem_cons_self ..)
      omega
  have := key ws ⟨#[]⟩ hz
  have e : (ByteArray.mk #[]).size = 0 := rfl
  rw [e] at this
  unfold tx
  omega

theorem Text_ok (w : World) :
    Calls Tryd.prog 11 #[.nilIface] w fun e' w' => e' = .returned (.string ⟨#[111, 107]⟩) ∧ Below w.heap.size w w' := by
  have hb : Below w.heap.size w ((w.alloc (.cells #[.pointer none] 39)).alloc (.cells #[.pointer none] 44)) := (below_alloc _ _).alloc (by simp) _
  have a1 := fun w => run_string_add_sum (P := Tryd.prog) w ⟨#[]⟩ ⟨#[111, 107]⟩ (by decide)
  have e1 : (⟨#[]⟩ : ByteArray) ++ ⟨#[111, 107]⟩ = ⟨#[111, 107]⟩ := by rfl
  rw [e1] at a1
  clear e1
  go_enter Tryd.func11, Tryd.ntmps11
  go_wp2_with fail
  refine wp_loop_rounds 1 ?_
  rw [rounds_succ]
  go_wp2_with fail
  refine (As_nil _ _).mono ?_
  rintro e' w1 ⟨rfl, rfl⟩
  have hb2 := Lib.hid hb
  clear hb
  go_wp2_with fail
  go_ret
  exact ⟨rfl, hb2⟩

set_option maxHeartbeats 2000000 in
theorem Text_any (code at_ : Int) (hc : Wf code) (ha : Wf at_) (ws : List ByteArray) (hw : ws.length ≤ 1000) (hz : ∀ s ∈ ws, s.size ≤ 140737488351232) (e : Value) (B : Nat) (w : World) (hE : En B w) (h : Fe w w.heap.size code at_ ws e) :
    Calls Tryd.prog 11 #[e] w fun e' w' => e' = .returned (.string (tx ws ++ pt code at_)) ∧ Below w.heap.size w w' := by
  have hz' := Lib.hid hz
  have hB := hE.le
  have h' := Lib.hid h
  have hE' := Lib.hid hE
  clear h hE hz
  go_enter Tryd.func11, Tryd.ntmps11
  go_wp2_with fail
  go_loopg [0, 3] (ws.length + 1) (fun k e' nn wr => ∃ (pre ws' : List ByteArray), ws'.length < k ∧ Hid (pre ++ ws' = ws) ∧ nn = .string (tx pre) ∧ Hid (Fe wr w.heap.size code at_ ws' e') ∧ Hid (Below w.heap.size w wr) ∧ Hid (En B wr))
  case atStart => exact ⟨[], ws, by omega, Lib.hid rfl, rfl, h', Lib.hid (Below.refl _ _), hE'⟩
  case round =>
    obtain ⟨pre, ws', hk, hj, rfl, hf, hbr, hEr⟩ := hrel
    have hsz := hbr.out.size
    have hb : Below wr.heap.size wr (wr.alloc (.cells #[.pointer none] 39)) := below_alloc _ _
    have hf1 := Lib.hid (hf.out.on (hb.mono hsz))
    have hE1 := Lib.hid (hEr.out.sz hb)
    have hb1 := Lib.hid (hbr.out.trans (hb.mono hsz))
    clear hb hf hEr hbr
    cases ws' with
    | nil =>
      obtain ⟨b, b1, ⟨rfl, b2⟩, b3, b4⟩ := hf1.out
      have hj' : pre = ws := by have := hj.out; simpa using this
      subst hj'
      clear b3 b4 b2
      go_wp2_with fail
      refine (As_wrap_none ⟨wr.heap.size, 0, none⟩ _ _ _ hE1.out.et (by simp; rfl)).mono ?_
      rintro e' w1 ⟨rfl, c1⟩
      have hs1 := c1.size
      have hb2 := Lib.hid (hb1.out.trans (c1.mono (by simp; omega)))
      have hf2 := Lib.hid (hf1.out.on (c1.mono (by simp; omega)))
      have hE2 := Lib.hid (hE1.out.sz c1)
      clear c1 hb1 hf1 hE1
      simp at hs1
      have hb : Below w1.heap.size w1 (w1.alloc (.cells #[.pointer none] 44)) := below_alloc _ _
      have hs1' : w.heap.size ≤ w1.heap.size := by omega
      have hf3 := Lib.hid (hf2.out.on (hb.mono hs1'))
      have hE3 := Lib.hid (hE2.out.sz hb)
      have hb3 := Lib.hid (hb2.out.trans (hb.mono hs1'))
      clear hb hf2 hE2 hb2
      go_wp2_with fail
      obtain ⟨b', b1', ⟨eb, b2'⟩, b3, b4⟩ := hf3.out
      obtain rfl : b = b' := by injection eb with _ eb; injection eb with eb; injection eb with eb; injection eb
      refine (As_plain _ ⟨w1.heap.size, 0, none⟩ ⟨b, 0, none⟩ (.pointer none) [] w1.heap.size _ hE3.out.et ⟨rfl, by show b < _; omega⟩ (by simp) (by simp) (Nat.le_refl _)).mono ?_
      rintro e' w2 ⟨rfl, c1, c2⟩
      have c3 : w2.cell? ⟨b, 0, none⟩ = some (.int .i64 code) := by rw [c2.cell (show b < _ by omega)]; exact b3
      have c4 : w2.cell? ⟨b, 1, none⟩ = some (.int .i64 at_) := by rw [c2.cell (show b < _ by omega)]; exact b4
      have hb4 := Lib.hid (hb3.out.trans (c2.mono hs1'))
      have hs2 := c2.size
      simp at hs2
      have hE4 := Lib.hid (hE3.out.on (c2.mono (by omega)))
      clear b3 b4 c2 hb3 hE3 hf3 eb b2'
      go_wp2_with fail
      refine (Error_any code at_ hc ha b B _ hE4.out c3 c4 (by omega)).mono ?_
      rintro e' w3 ⟨rfl, c5⟩
      have hb5 := Lib.hid (hb4.out.trans (c5.mono (by omega)))
      have a1 := fun w => run_string_add_sum (P := Tryd.prog) w (tx pre) (pt code at_) (by
        have h1 := tx_size pre hz'.out
        have h2 := pt_size code at_ hc ha
        omega)
      obtain ⟨x, hx⟩ : ∃ x, tx pre ++ pt code at_ = x := ⟨_, rfl⟩
      rw [hx] at a1
      have HX := Lib.hid hx
      clear c3 c4 c5 hb4 hE4 hx
      go_wp2_with fail
      go_ret
      refine ⟨?_, hb5⟩
      rw [HX.out]
      rfl
    | cons s ws' =>
      obtain ⟨b, b1, ⟨q, inner, rfl, q1, q2, q3, q4⟩, b3, b4⟩ := hf1.out
      clear q2 q3 q4 b3 b4
      go_wp2_with fail
      refine (As_wrap ⟨wr.heap.size, 0, none⟩ ⟨q, 0, none⟩ (.pointer none) wr.heap.size _ hE1.out.et (by simp) (by simp) (Nat.le_refl _)).mono ?_
      rintro e' w1 ⟨rfl, c1, c2, c3⟩
      obtain ⟨b', b1', ⟨q', inner', eq1, q1', q2, q3, q4⟩, b3, b4⟩ := hf1.out
      obtain rfl : q = q' := by injection eq1 with _ eb; injection eb with eb; injection eb with eb; injection eb
      have d0 : w1.cell? ⟨q, 0, none⟩ = some (.string s) := by rw [c3.cell (show q < _ by omega)]; exact q2
      have d1 : w1.cell? ⟨q, 1, none⟩ = some inner' := by rw [c3.cell (show q < _ by omega)]; exact q3
      have hf2 : Hid (Fe w1 w.heap.size code at_ ws' inner') := ⟨b', b1', q4.on (c3.mono hsz), by rw [c3.cell (show b' < _ by omega)]; exact b3, by rw [c3.cell (show b' < _ by omega)]; exact b4⟩
      have hb2 := Lib.hid (hb1.out.trans (c3.mono hsz))
      have hE2 := Lib.hid (hE1.out.on (c3.mono (by omega)))
      have hpre : ∀ x ∈ pre, x.size ≤ 140737488351232 := fun x hx => hz'.out x (by rw [← hj.out]; exact List.mem_append_left _ hx)
      have hs : s.size ≤ 140737488351232 := hz'.out s (by rw [← hj.out]; exact List.mem_append_right _ (List.mem_cons_self ..))
      have hln : pre.length ≤ 1000 := by have := congrArg List.length hj.out; simp at this; omega
      have a1 := fun w => run_string_add_sum (P := Tryd.prog) w s kColon (by rw [kColon_size]; omega)
      have a2 := fun w => run_string_add_sum (P := Tryd.prog) w (tx pre) (s ++ kColon) (by
        have h1 := tx_size pre hpre
        rw [ByteArray.size_append, kColon_size]
        omega)
      have hx2 := Lib.hid (tx_snoc pre s)
      rw [← tx_snoc] at a2
      obtain ⟨x, hx⟩ : ∃ x, s ++ kColon = x := ⟨_, rfl⟩
      rw [hx] at a1 a2
      have e1 : kColon = ⟨#[58, 32]⟩ := rfl
      rw [e1] at a1
      clear c3 q2 q3 q4 b3 b4 hf1 hb1 hE1 eq1 hpre hx e1
      go_wp2_with fail
      go_roundg (ws'.length + 1)
      case measure => simp at hk; omega
      case rel => exact ⟨pre ++ [s], ws', by omega, Lib.hid (by have := hj.out; simpa using this), rfl, hf2, hb2, hE2⟩
end Go.Proofs.YthkimdjkpfpmaaaDoor.Er
