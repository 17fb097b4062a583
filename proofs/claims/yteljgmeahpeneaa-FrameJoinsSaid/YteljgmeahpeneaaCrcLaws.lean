/- The walks of the laws of the layer crc. -/
import Derived.Test.YteljgmeahpeneaaCrcWalk
namespace Go.Proofs.Yteljgmeahpeneaa
open Go.RowKit
theorem info_u8 : (Try.prog.info? 5).map (fun i => (i.zero, i.size, i.bytes)) = some (some (.int .u8 0), 1, 1) := by kernel_rfl

namespace CrcW
theorem check_lit : Crc.sum [49, 50, 51, 52, 53, 54, 55, 56, 57] = 3421780262 := by decide +kernel
theorem sum_nil : Crc.sum [] = 0 := by decide +kernel

set_option maxHeartbeats 400000 in
theorem awake_any (w : World) :
    Calls Try.prog 11 #[] w fun e w' => e = .returned (.bool true) ∧ Below w.heap.size w w' := by
  have kc := fun (w : World) (C : Array Value) (n c : Nat) => Lib.run_convert_bytes_const (P := Try.prog) w 22 5 C n c Try.underlying22 Try.underlying5
  go_enter Try.func11, Try.ntmps11
  go_wp2_with fail
  refine (sum_any _ _ _ [49, 50, 51, 52, 53, 54, 55, 56, 57] _ (bs_lit _ _ _ _ _ _ rfl (by decide) rfl)).mono ?_
  rintro e w' ⟨rfl, rfl⟩
  rw [check_lit]
  go_wp2_with fail
  refine (sum_any _ _ _ [] _ (Rd.none_ _)).mono ?_
  rintro e w' ⟨rfl, rfl⟩
  rw [sum_nil]
  go_wp2_with fail
  go_ret
  exact ⟨rfl, below_alloc _ _⟩
end CrcW

namespace crcSumsW
set_option maxHeartbeats 400000 in
theorem walk (A : Option Addr) (n c : Nat) (l : List UInt8) (w : World) (hBs : Bs w A n c l) (_hz : c ≤ 140737488351232) :
    Calls Try.prog 3 #[.slice A n c] w fun e w' => e = .returned (.bool true) ∧ Below w.heap.size w w' := by
  go_enter Try.func3, Try.ntmps3
  go_wp2_with fail
  refine (CrcW.awake_any _).mono ?_
  rintro e w' ⟨rfl, hb⟩
  have hBs' := hBs.below hb
  go_wp2_with fail
  · go_ret
    exact ⟨rfl, hb⟩
  · refine (CrcW.sum_any _ _ _ _ _ hBs').mono ?_
    rintro e w' ⟨rfl, rfl⟩
    go_wp2_with fail
    refine (CrcW.ref_any _ _ _ _ _ hBs').mono ?_
    rintro e w' ⟨rfl, rfl⟩
    go_wp2_with fail
    go_ret
    exact ⟨rfl, hb⟩
end crcSumsW

namespace crcOnW
set_option maxHeartbeats 400000 in
theorem walk (A : Option Addr) (n c : Nat) (l : List UInt8) (A2 : Option Addr) (n2 c2 : Nat) (l2 : List UInt8) (w : World) (hBs : Bs w A n c l) (_hz : c ≤ 140737488351232) (hBs2 : Bs w A2 n2 c2 l2) (_hz2 : c2 ≤ 140737488351232) :
    Calls Try.prog 4 #[.slice A n c, .slice A2 n2 c2] w fun e w' => e = .returned (.bool true) ∧ Below w.heap.size w w' := by
  go_enter Try.func4, Try.ntmps4
  go_wp2_with fail
  refine (CrcW.awake_any _).mono ?_
  rintro e w1 ⟨rfl, hb⟩
  have hA := hBs.below hb
  have hA2 := hBs2.below hb
  by_cases hbig : 8192 < n ∨ 8192 < n2
  · by_cases h1 : 8192 < n
    · go_wp2_with fail
      go_ret
      exact ⟨rfl, hb⟩
    · have h2 : 8192 < n2 := by omega
      go_wp2_with fail
      go_ret
      exact ⟨rfl, hb⟩
  · have h1 : n ≤ 8192 := by omega
    have h2 : n2 ≤ 8192 := by omega
    clear hbig
    have hNl : Hid (l.length = n) := hBs.len
    have hNl2 : Hid (l2.length = n2) := hBs2.len
    go_wp2_with fail
    refine (CrcW.sum_any _ _ _ _ _ hA).mono ?_
    rintro e w' ⟨rfl, rfl⟩
    have hs := Crc.on_lt 0 l
    go_wp2_with fail
    refine (CrcW.on_any _ (by exact Crc.on_lt _ _) _ _ _ _ _ hA2).mono ?_
    rintro e w' ⟨rfl, rfl⟩
    go_wp2_with (at_builtin; apply stop_here)
    have hW : w1.heap.size ≤ (w1.alloc (.cells #[] 5)).heap.size := by simp
    refine Stop.go (append_bytes _ 22 5 Try.underlying22 info_u8 rfl _ _ rfl w1.heap.size _ [] rfl (owb_lit _ _ (Nat.le_refl _) _ _ _ _ rfl (by decide) rfl) _ _ _ l rfl (hA.below (below_alloc _ _)) n (by simp) (by omega) hW ?_)
    intro A3 c3 w3 ho3 hg3 hb3
    have hA3 := hA2.below ((below_alloc _ (.cells #[] 5)).trans hb3)
    have hs3 : w1.heap.size ≤ w3.heap.size := Nat.le_trans hW hb3.size
    have hbb3 : Below w.heap.size w w3 := hb.trans (((below_alloc _ (.cells #[] 5)).trans hb3).mono hb.size)
    go_wp2_with (at_builtin; apply stop_here)
    refine Stop.go (append_bytes _ 22 5 Try.underlying22 info_u8 rfl _ _ rfl w1.heap.size _ l rfl (by exact ho3) _ _ _ l2 rfl hA3 (n + n2) (by rw [hNl.out]) (by omega) hs3 ?_)
    intro A4 c4 w4 ho4 hg4 hb4
    have hbb4 : Below w.heap.size w w4 := hbb3.trans (hb4.mono hb.size)
    have hA4 := hBs.below hbb4
    go_wp2_with fail
    refine (CrcW.ref_any _ _ _ _ _ ho4.bs).mono ?_
    rintro e w' ⟨rfl, rfl⟩
    have hsum := Crc.on_sum l l2
    go_wp2_with fail
    refine (CrcW.sum_any _ _ _ _ _ hA4).mono ?_
    rintro e w' ⟨rfl, rfl⟩
    go_wp2_with fail
    refine (CrcW.on_any _ (by exact Crc.on_lt _ _) _ _ _ [] _ (Rd.none_ _)).mono ?_
    rintro e w' ⟨rfl, rfl⟩
    go_wp2_with fail
    refine (CrcW.sum_any _ _ _ _ _ hA4).mono ?_
    rintro e w' ⟨rfl, rfl⟩
    have hnil : Crc.on (Crc.sum l) [] = Crc.sum l := by rw [Crc.on_sum, List.append_nil]
    go_wp2_with fail
    go_ret
    exact ⟨by simp [hsum, hnil], hbb4⟩
end crcOnW
end Go.Proofs.Yteljgmeahpeneaa
