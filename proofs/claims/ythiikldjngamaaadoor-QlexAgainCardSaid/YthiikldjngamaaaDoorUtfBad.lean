/- Both Bad. -/
import Derived.Test.YthiikldjngamaaaDoorUtfNext2
import Derived.Deep.LoopGhost
namespace Go.Proofs.YthiikldjngamaaaDoor.UtfW
open Go.RowKit

set_option maxRecDepth 100000 in
theorem utfBad_any (A : Option Addr) (n c : Nat) (l : List UInt8) (hsz : n ≤ 281474976710656) (w : World) (hBs : Bs w A n c l) (hU : Ut w) :
    Calls Tryd.prog 12 #[.slice A n c] w fun e w' => e = .returned (.int .i64 (badW l 0)) ∧ Below w.heap.size w w' := by
  have HL : Hid (l.length = n) := hBs.len
  obtain ⟨R, hR⟩ : ∃ R, badW l 0 = R := ⟨_, rfl⟩
  rw [hR]
  have hR' := Lib.hid hR
  clear hR
  go_enter Tryd.func12, Tryd.ntmps12
  go_wp2_with fail
  go_loopw [3] (fun v wr => ∃ k : Nat, k ≤ n ∧ v = .int .i64 (k : Nat) ∧ Hid (badW l k = R) ∧ Hid (Below w.heap.size w wr)) (fun v _ => n - (intOf v).toNat)
  case atStart => exact ⟨0, by omega, rfl, hR', Lib.hid (Below.refl _ _)⟩
  case round =>
    obtain ⟨k, hk, rfl, hr, hb⟩ := hrel
    by_cases hlt : k < n
    · have i0 : decide ((k : Int) < (n : Int)) = true := by simp; omega
      have hl : k < l.length := by rw [HL.out]; exact hlt
      have hle := nx_le hl
      rw [HL.out] at hle
      have hc := utfNext_any A n c l k hsz wr (hBs.below hb.out) (hU.below hb.out)
      rw [nxI_nat] at hc
      obtain ⟨P, hP⟩ : ∃ P, nx l k = P := ⟨_, rfl⟩
      rw [hP] at hc hle
      have hP' := Lib.hid hP
      clear hP
      obtain ⟨r, m⟩ := P
      unfold nxV at hc
      simp only at hc hle
      go_wp2_with fail
      refine hc.mono ?_
      rintro e w1 ⟨rfl, hb1⟩
      have hx := Lib.hid (hb.out.trans (hb1.mono hb.out.size))
      clear hb1 hc
      by_cases hm : m = 0
      · subst hm
        have hl' := Lib.hid hl
        clear hl
        go_wp2_with fail
        go_ret
        refine ⟨ret_int ?_, hx.out⟩
        rw [← hr.out, badW_stop hl'.out (by rw [hP'.out])]
      · have j1 : ((m : Int) == 0) = false := by rw [beq_eq_false_iff_ne]; omega
        have j2 : decide ((m : Int) = 0) = false := by simp; omega
        have hl' := Lib.hid hl
        clear hl
        go_wp2_with fail
        go_roundw
        case rel =>
          refine ⟨k + m, by omega, by go_num, Lib.hid ?_, hx⟩
          have := badW_on hl'.out (by rw [hP'.out]; exact hm)
          rw [hP'.out] at this
          rw [← hr.out, this]
        case measure => simp [intOf]; omega
    · have i0 : decide ((k : Int) < (n : Int)) = false := by simp; omega
      go_wp2_with fail
      go_ret
      refine ⟨ret_int ?_, hb.out⟩
      rw [← hr.out, badW_end (by rw [HL.out]; omega)]

set_option maxRecDepth 100000 in
theorem refBad_any (A : Option Addr) (n c : Nat) (l : List UInt8) (hsz : n ≤ 281474976710656) (w : World) (hBs : Bs w A n c l) :
    Calls Tryd.prog 10 #[.slice A n c] w fun e w' => e = .returned (.int .i64 (badW l 0)) ∧ Below w.heap.size w w' := by
  have HL : Hid (l.length = n) := hBs.len
  obtain ⟨R, hR⟩ : ∃ R, badW l 0 = R := ⟨_, rfl⟩
  rw [hR]
  have hR' := Lib.hid hR
  clear hR
  go_enter Tryd.func10, Tryd.ntmps10
  go_wp2_with fail
  go_loopw [3] (fun v wr => ∃ k : Nat, k ≤ n ∧ v = .int .i64 (k : Nat) ∧ Hid (badW l k = R) ∧ Hid (Below w.heap.size w wr)) (fun v _ => n - (intOf v).toNat)
  case atStart => exact ⟨0, by omega, rfl, hR', Lib.hid (Below.refl _ _)⟩
  case round =>
    obtain ⟨k, hk, rfl, hr, hb⟩ := hrel
    by_cases hlt : k < n
    · have i0 : decide ((k : Int) < (n : Int)) = true := by simp; omega
      have hl : k < l.length := by rw [HL.out]; exact hlt
      have hle := nx_le hl
      rw [HL.out] at hle
      have hc := refNext_any A n c l k hsz wr (hBs.below hb.out)
      rw [nxI_nat] at hc
      obtain ⟨P, hP⟩ : ∃ P, nx l k = P := ⟨_, rfl⟩
      rw [hP] at hc hle
      have hP' := Lib.hid hP
      clear hP
      obtain ⟨r, m⟩ := P
      unfold nxV at hc
      simp only at hc hle
      go_wp2_with fail
      refine hc.mono ?_
      rintro e w1 ⟨rfl, hb1⟩
      have hx := Lib.hid (hb.out.trans (hb1.mono hb.out.size))
      clear hb1 hc
      by_cases hm : m = 0
      · subst hm
        have hl' := Lib.hid hl
        clear hl
        go_wp2_with fail
        go_ret
        refine ⟨ret_int ?_, hx.out⟩
        rw [← hr.out, badW_stop hl'.out (by rw [hP'.out])]
      · have j1 : ((m : Int) == 0) = false := by rw [beq_eq_false_iff_ne]; omega
        have j2 : decide ((m : Int) = 0) = false := by simp; omega
        have hl' := Lib.hid hl
        clear hl
        go_wp2_with fail
        go_roundw
        case rel =>
          refine ⟨k + m, by omega, by go_num, Lib.hid ?_, hx⟩
          have := badW_on hl'.out (by rw [hP'.out]; exact hm)
          rw [hP'.out] at this
          rw [← hr.out, this]
        case measure => simp [intOf]; omega
    · have i0 : decide ((k : Int) < (n : Int)) = false := by simp; omega
      go_wp2_with fail
      go_ret
      refine ⟨ret_int ?_, hb.out⟩
      rw [← hr.out, badW_end (by rw [HL.out]; omega)]
end Go.Proofs.YthiikldjngamaaaDoor.UtfW
