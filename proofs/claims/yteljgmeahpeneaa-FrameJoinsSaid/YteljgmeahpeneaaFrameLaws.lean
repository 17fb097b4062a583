/- The walks of the laws of the layer frame: what is awake; FrameReads. -/
import Derived.Test.YteljgmeahpeneaaFrameOps2
namespace Go.Proofs.Yteljgmeahpeneaa
open Go.RowKit
namespace FrW

theorem put_a : Fr.put [97] = Fr.frame [97] := by decide +kernel
theorem put_a_len : (Fr.put [97]).length = 9 := by decide +kernel
theorem next_a : Fr.next (Fr.put [97]) = ([97], 9, 1) := by decide +kernel
theorem next_torn : Fr.next [1, 0] = ([], 0, 3) := by decide +kernel
theorem next_bad : Fr.next [0, 0, 0, 0] = ([], 0, 4) := by decide +kernel

set_option maxHeartbeats 1000000 in
theorem awake_any (w : World) :
    Calls Try.prog 15 #[] w fun e w' => e = .returned (.bool true) ∧ Below w.heap.size w w' := by
  have kc := fun (w : World) (C : Array Value) (n c : Nat) => Lib.run_convert_bytes_const (P := Try.prog) w 22 5 C n c Try.underlying22 Try.underlying5
  go_enter Try.func15, Try.ntmps15
  go_wp2_with fail
  refine (put_any _ _ _ [97] _ (bs_lit _ _ _ _ _ _ rfl (by decide) rfl)).mono ?_
  rintro e w1 ⟨A1, c1, rfl, ho1, hb1⟩
  have hb01 : Below w.heap.size w w1 := (below_alloc w _).trans (hb1.mono (by simp))
  rw [put_a_len] at ho1 ⊢
  clear hb1
  go_wp2_with fail
  refine (next_any _ _ _ _ _ ho1.bs).mono ?_
  rw [next_a]
  rintro e w2 ⟨A2, c2, rfl, ho2, hb2⟩
  have hb02 : Below w.heap.size w w2 := hb01.trans (hb2.mono hb01.size)
  have hx2 := ho2.bs
  clear hb2
  go_wp2_with fail
  refine (next_any _ _ _ [1, 0] _ (bs_lit _ _ _ _ _ _ rfl (by decide) rfl)).mono ?_
  rw [next_torn]
  rintro e w3 ⟨A3, c3, rfl, ho3, hb3⟩
  have hb23 : Below w2.heap.size w2 w3 := (below_alloc w2 _).trans (hb3.mono (by simp))
  have hb03 : Below w.heap.size w w3 := hb02.trans (hb23.mono hb02.size)
  have hx3 := hx2.below hb23
  clear hb3
  go_wp2_with fail
  refine (next_any _ _ _ [0, 0, 0, 0] _ (bs_lit _ _ _ _ _ _ rfl (by decide) rfl)).mono ?_
  rw [next_bad]
  rintro e w4 ⟨A4, c4, rfl, ho4, hb4⟩
  have hb34 : Below w3.heap.size w3 w4 := (below_alloc w3 _).trans (hb4.mono (by simp))
  have hb04 : Below w.heap.size w w4 := hb03.trans (hb34.mono hb03.size)
  have hx4 : (convert 22 9 (.slice A2 1 c2)).run Try.prog w4 = .ok (.string ⟨#[97]⟩) w4 := (hx3.below hb34).conv (P := Try.prog) Try.underlying22 Try.underlying5 Try.underlying9
  clear hb4 kc
  go_wp2_with fail
  go_ret
  exact ⟨rfl, hb04⟩
end FrW

namespace frameReadsW
set_option maxHeartbeats 1000000 in
theorem walk (A : Option Addr) (n c : Nat) (l : List UInt8) (w : World) (hBs : Bs w A n c l) (_hz : c ≤ 140737488351232) :
    Calls Try.prog 7 #[.slice A n c] w fun e w' => e = .returned (.bool true) ∧ Below w.heap.size w w' := by
  have HL : Hid (l.length = n) := hBs.len
  go_enter Try.func7, Try.ntmps7
  go_wp2_with fail
  refine (FrW.awake_any _).mono ?_
  rintro e w1 ⟨rfl, hb⟩
  by_cases hbig : 16384 < n
  · go_wp2_with fail
    go_ret
    exact ⟨rfl, hb⟩
  have hsz : n ≤ 16384 := by omega
  clear hbig
  go_wp2_with (at_builtin; apply stop_here)
  refine Stop.go (append_bytes _ 22 5 Try.underlying22 info_u8 rfl _ _ rfl w.heap.size _ [] rfl (owb_lit _ _ hb.size _ _ _ _ rfl (by decide) rfl) _ _ _ l rfl ((hBs.below hb).below (below_alloc _ _)) n (by simp) (by omega) (by have := hb.size; simp; omega) ?_)
  intro A2 c2 w2 ho2 hg2 hb2
  have hb02 : Below w.heap.size w w2 := hb.trans (((below_alloc w1 _).mono hb.size).trans hb2)
  have hB2 := hBs.below hb02
  have hO2 : Bs w2 A2 n c2 l := ho2.bs
  clear hb2 hg2 ho2 hb
  go_wp2_with fail
  refine (FrW.all_any _ _ _ _ _ hO2 (by omega)).mono ?_
  rintro e w3 ⟨A3, c3, rfl, ho3, hb3⟩
  have hb03 : Below w.heap.size w w3 := hb02.trans (hb3.mono hb02.size)
  have hB3 := hB2.below hb3
  have hO3 := hO2.below hb3
  clear hb3 hb02 hB2 hO2
  go_wp2_with fail
  refine (FrW.refall_any _ _ _ _ _ hB3 (by omega)).mono ?_
  rintro e w4 ⟨A4, c4, rfl, ho4, hb4⟩
  have hb04 : Below w.heap.size w w4 := hb03.trans (hb4.mono hb03.size)
  have hB4 := hB3.below hb4
  have hO4 := hO3.below hb4
  have hX4 := ho3.bsl.below hb4
  clear hb4 hb03 hB3 hO3 ho3
  go_wp2_with fail
  refine (FrW.next_any _ _ _ _ _ hO4).mono ?_
  rintro e w5 ⟨A5, c5, rfl, ho5, hb5⟩
  have hb05 : Below w.heap.size w w5 := hb04.trans (hb5.mono hb04.size)
  have hB5 := hB4.below hb5
  have hO5 := hO4.below hb5
  have hX5 := hX4.below hb5
  have hY5 := ho4.bsl.below hb5
  clear hb5 hb04 hB4 hO4 hX4 ho4
  go_wp2_with fail
  refine (FrW.refnext_any _ _ _ _ _ hB5).mono ?_
  rintro e w6 ⟨A6, c6, rfl, ho6, hb6⟩
  have hb06 : Below w.heap.size w w6 := hb05.trans (hb6.mono hb05.size)
  have hB6 := hB5.below hb6
  have hO6 := hO5.below hb6
  have hX6 := hX5.below hb6
  have hY6 := hY5.below hb6
  have hV6 := ho5.bs.below hb6
  clear hb6 hb05 hB5 hO5 hX5 hY5 ho5
  go_wp2_with fail
  refine (FrW.records_any _ _ _ _ _ _ _ _ _ hX6 hY6 rfl).mono ?_
  rintro e w7 ⟨rfl, k7, rfl⟩
  go_wp2_with fail
  refine (FrW.bytes_any _ _ _ _ _ _ _ _ _ (hV6.below (Joins.below_draws _ _ _)) (ho6.bs.below (Joins.below_draws _ _ _))).mono ?_
  rintro e w7 ⟨rfl, k8, rfl⟩
  go_wp2_with fail
  refine (FrW.bytes_any _ _ _ _ _ _ _ _ _ (hO6.below (Joins.below_draws _ _ _)) (hB6.below (Joins.below_draws _ _ _))).mono ?_
  rintro e w7 ⟨rfl, k9, rfl⟩
  go_wp2_with fail
  go_ret
  exact ⟨by simp, hb06.trans (Joins.below_draws _ _ _)⟩
end frameReadsW
end Go.Proofs.Yteljgmeahpeneaa
