/- next of xlex. -/
import Derived.Test.YtcecmbbhjaeodaaGreatDoorMXlSc
namespace Go.Proofs.YtcecmbbhjaeodaaGreatDoor.Xl
open Go.RowKit UtfW

theorem next_any (A : Option Addr) (n c : Nat) (l : Tx) (p : Nat) (hsz : n ≤ 281474976710656) (w : World) (hBs : Bs w A n c l) (hU : Ut w) :
    Calls Tryz.prog 60 #[.slice A n c, .int .i64 (p : Nat)] w fun e w' => e = .returned (.int .i32 ((nx l p).1 : Nat)) ∧ Below w.heap.size w w' := by
  have hc := utfNext_any A n c l p hsz w hBs hU
  rw [nxI_nat] at hc
  obtain ⟨P, hP⟩ : ∃ P, nx l p = P := ⟨_, rfl⟩
  rw [hP] at hc ⊢
  clear hP
  obtain ⟨r, m⟩ := P
  unfold nxV at hc
  simp only at hc ⊢
  go_enter Tryz.func60, Tryz.ntmps60
  go_wp2_with fail
  refine hc.mono ?_
  rintro e w1 ⟨rfl, hb1⟩
  have hb1' := Lib.hid hb1
  clear hb1 hc
  go_wp2_with fail
  go_ret
  exact ⟨rfl, hb1'.out⟩
end Go.Proofs.YtcecmbbhjaeodaaGreatDoor.Xl
