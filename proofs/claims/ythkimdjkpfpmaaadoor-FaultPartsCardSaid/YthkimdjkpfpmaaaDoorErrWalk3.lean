/- The walks of the layer fault, third part: texts. -/
import Derived.Test.YthkimdjkpfpmaaaDoorErrWalk2
import Derived.Lib.QuietBelow
namespace Go.Proofs.YthkimdjkpfpmaaaDoor.Er
open Go.RowKit

def kCode : ByteArray := ⟨#[99, 111, 100, 101, 32]⟩
def kAt : ByteArray := ⟨#[32, 97, 116, 32]⟩
def kColon : ByteArray := ⟨#[58, 32]⟩

/-- A plain error's text. -/
def pt (code at_ : Int) : ByteArray := ((kCode ++ itx code) ++ kAt) ++ itx at_

theorem itx_len (n : Int) (h0 : -9223372036854775808 ≤ n) (h1 : n ≤ 9223372036854775807) : (itx n).size ≤ 21 := by
  unfold itx
  rw [strOf_size]
  exact Lib.itoa_length_le n h0 h1

/-- A number of the model's int. -/
def Wf (n : Int) : Prop := -9223372036854775808 ≤ n ∧ n ≤ 9223372036854775807

theorem pt_size (code at_ : Int) (hc : Wf code) (ha : Wf at_) : (pt code at_).size ≤ 51 := by
  unfold pt
  have h1 := itx_len code hc.1 hc.2
  have h2 := itx_len at_ ha.1 ha.2
  have h3 : kCode.size = 5 := rfl
  have h4 : kAt.size = 4 := rfl
  rw [ByteArray.size_append, ByteArray.size_append, ByteArray.size_append]
  omega

theorem Error_any (code at_ : Int) (hc : Wf code) (ha : Wf at_) (b B : Nat) (w : World) (hE : En B w) (h0 : w.cell? ⟨b, 0, none⟩ = some (.int .i64 code)) (h1 : w.cell? ⟨b, 1, none⟩ = some (.int .i64 at_)) (hb : b < w.heap.size) :
    Calls Tryd.prog 18 #[.pointer (some ⟨b, 0, none⟩)] w fun e' w' => e' = .returned (.string (pt code at_)) ∧ Below w.heap.size w w' := by
  have i1 := itx_len code hc.1 hc.2
  have i2 := itx_len at_ ha.1 ha.2
  have a1 := fun w => run_string_add_sum (P := Tryd.prog) w kCode (itx code) (by have : kCode.size = 5 := rfl; omega)
  have a2 := fun w => run_string_add_sum (P := Tryd.prog) w (kCode ++ itx code) kAt (by have : kCode.size = 5 := rfl; have : kAt.size = 4 := rfl; rw [ByteArray.size_append]; omega)
  have a3 := fun w => run_string_add_sum (P := Tryd.prog) w (kCode ++ itx code ++ kAt) (itx at_) (by have : kCode.size = 5 := rfl; have : kAt.size = 4 := rfl; rw [ByteArray.size_append, ByteArray.size_append]; omega)
  have e1 : kCode = ⟨#[99, 111, 100, 101, 32]⟩ := rfl
  have e2 : kAt = ⟨#[32, 97, 116, 32]⟩ := rfl
  obtain ⟨x1, hx1⟩ : ∃ x, kCode ++ itx code = x := ⟨_, rfl⟩
  rw [hx1] at a1 a2 a3
  obtain ⟨x2, hx2⟩ : ∃ x, x1 ++ kAt = x := ⟨_, rfl⟩
  rw [hx2] at a2 a3
  obtain ⟨x3, hx3⟩ : ∃ x, x2 ++ itx at_ = x := ⟨_, rfl⟩
  rw [hx3] at a3
  have hx : pt code at_ = x3 := by unfold pt; rw [hx1, hx2, hx3]
  rw [hx]
  rw [e1] at a1
  rw [e2] at a2
  clear e1 e2 hx1 hx2 hx3 hx
  have hE' := Lib.hid hE
  clear hE
  have mixed : Tryd.prog.follows .mixedOrders = true := by kernel_rfl
  have k0 := cell_regrown h0
  have k1 := cell_regrown h1
  have c1 : ∀ d os, Calls Tryd.prog 25 #[.int .i64 code] (Sort.grow (redrawn w d) os) fun e w'' => e = .returned (.string (itx code)) ∧ ∃ p : Regrown, w'' = Sort.grow (redrawn w p.d) p.os := fun d os =>
    Calls.regrown_of (strconv_Itoa code hc.1 hc.2 _ (hE'.out.sz (below_regrown w d os)).tab.here)
  have c2 : ∀ d os, Calls Tryd.prog 25 #[.int .i64 at_] (Sort.grow (redrawn w d) os) fun e w'' => e = .returned (.string (itx at_)) ∧ ∃ p : Regrown, w'' = Sort.grow (redrawn w p.d) p.os := fun d os =>
    Calls.regrown_of (strconv_Itoa at_ ha.1 ha.2 _ (hE'.out.sz (below_regrown w d os)).tab.here)
  have hc1 := hc.1
  have hc2 := hc.2
  have ha1 := ha.1
  have ha2 := ha.2
  go_enter Tryd.func18, Tryd.ntmps18
  go_wp2_with fail
  refine wp_region_quiet_below (by assumption) (by kernel_rfl) ?_
  repeat (quiet_step (first | exact c1 _ _ | exact c2 _ _))
  refine wpQuiet_nil ?_
  intro _ hw'
  obtain ⟨⟨dq, osq⟩, hw''⟩ := hw'
  subst hw''
  go_wp2_with fail
  go_ret
  exact ⟨rfl, below_regrown w dq osq⟩
end Go.Proofs.YthkimdjkpfpmaaaDoor.Er
