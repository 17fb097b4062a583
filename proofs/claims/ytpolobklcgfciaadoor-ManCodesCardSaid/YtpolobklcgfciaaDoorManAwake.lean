/- The laws over man: awake. -/
import Derived.Test.YtpolobklcgfciaaDoorManBack
namespace Go.Proofs.YtpolobklcgfciaaDoor.Ma
open Go.RowKit Go.Shelf

theorem may_ex : mayM 2 5 [3, 4] = true := by decide
theorem dec_one : decM [1] = (false, 0, 0, []) := by decide
theorem name_two : strOf (nameOf [109, 97, 110, 46] 2) = ⟨#[109, 97, 110, 46, 48, 48, 48, 48, 48, 48, 48, 50]⟩ := by decide

set_option maxHeartbeats 2000000 in
set_option maxRecDepth 100000 in
theorem awake_any (w : World) (hT : Nu.Tens w) :
    Calls Tryd.prog 5 #[] w fun e w' => e = .returned (.bool true) ∧ Below w.heap.size w w' := by
  have hz0 := owz_lit w w.heap.size (Nat.le_refl _) #[.int .i64 3, .int .i64 4] 3 [3, 4] 2 rfl (by omega) rfl
  have hI0 : Is (w.alloc (.cells #[.int .i64 3, .int .i64 4] 3)) (some ⟨w.heap.size, 0, none⟩) 2 2 [3, 4] := hz0.rd
  have hb0 := below_alloc w (.cells #[.int .i64 3, .int .i64 4] 3)
  go_enter Tryd.func5, Tryd.ntmps5
  go_wp2_with fail
  have hbm := below_alloc (w.alloc (.cells #[.int .i64 3, .int .i64 4] 3)) (.cells #[.int .i64 2, .int .i64 5, .slice (some ⟨w.heap.size, 0, none⟩) 2 2] 24)
  have hmb := mb_new (w.alloc (.cells #[.int .i64 3, .int .i64 4] 3)) 2 5 (some ⟨w.heap.size, 0, none⟩) 2 2
  have hs1 : (w.alloc (.cells #[.int .i64 3, .int .i64 4] 3)).heap.size = w.heap.size + 1 := by simp
  rw [hs1] at hmb
  have hIm := hI0.below hbm
  have hxm := hb0.trans (hbm.mono hb0.size)
  obtain ⟨wm, hwm⟩ : ∃ wm, (w.alloc (.cells #[.int .i64 3, .int .i64 4] 3)).alloc (.cells #[.int .i64 2, .int .i64 5, .slice (some ⟨w.heap.size, 0, none⟩) 2 2] 24) = wm := ⟨_, rfl⟩
  rw [hwm] at hmb hIm hxm ⊢
  clear hz0 hI0 hb0 hbm hs1 hwm
  have c1 := manEncode_any 2 5 _ 2 2 [3, 4] wm (hT.below hxm) hIm
  have hlen := (encM_len may_ex).1
  obtain ⟨E, hE⟩ : ∃ E, encM 2 5 [3, 4] = E := ⟨_, rfl⟩
  have hdec : decM E = (true, 2, 5, [3, 4]) := by rw [← hE]; exact decM_encM may_ex
  rw [hE] at c1 hlen
  have hl32 : E.length = 32 := hlen
  rw [hl32] at c1
  have hdec' := Lib.hid hdec
  clear hE hlen hl32 hdec
  refine c1.mono ?_
  rintro e w1 ⟨A1, cc1, rfl, ho1, hb1⟩
  have hx1 := Lib.hid (hxm.trans (hb1.mono hxm.size))
  have hm1 := Lib.hid (hmb.below hb1)
  have hI1 := Lib.hid (hIm.below hb1)
  have hB1 := Lib.hid ho1.bs
  clear c1 hxm hmb hIm ho1 hb1
  have c2 := manDecode_any A1 32 cc1 E w1 (hT.below hx1.out) hB1.out
  rw [hdec'.out] at c2
  go_wp2_with fail
  refine c2.mono ?_
  rintro e w2 ⟨⟨A2, n2, cc2, rfl, hI2⟩, hb2⟩
  have hx2 := Lib.hid (hx1.out.trans (hb2.mono hx1.out.size))
  have hm2 := Lib.hid (hm1.out.below hb2)
  have hI12 := Lib.hid (hI1.out.below hb2)
  have hI2' := Lib.hid hI2
  clear c2 hb2 hI2 hm1 hI1
  go_wp2_with fail
  have hb3a := below_alloc w2 (.cells #[.int .i64 2, .int .i64 5, .slice A2 n2 cc2] 24)
  have hmx := mb_new w2 2 5 A2 n2 cc2
  have hbl3 := bs_lit (w2.alloc (.cells #[.int .i64 2, .int .i64 5, .slice A2 n2 cc2] 24)) #[.int .u8 1] 5 (0, 0) [1] 1 rfl (by omega) rfl
  have hb3b := below_alloc (w2.alloc (.cells #[.int .i64 2, .int .i64 5, .slice A2 n2 cc2] 24)) (.cells #[.int .u8 1] 5)
  have hs3 : (w2.alloc (.cells #[.int .i64 2, .int .i64 5, .slice A2 n2 cc2] 24)).heap.size = w2.heap.size + 1 := by simp
  have hmx3 := hmx.below hb3b
  have hb3 := hb3a.trans (hb3b.mono hb3a.size)
  rw [hs3] at hbl3
  obtain ⟨w3, hw3⟩ : ∃ w3, (w2.alloc (.cells #[.int .i64 2, .int .i64 5, .slice A2 n2 cc2] 24)).alloc (.cells #[.int .u8 1] 5) = w3 := ⟨_, rfl⟩
  rw [hw3] at hmx3 hb3 hbl3 ⊢
  have hx3 := Lib.hid (hx2.out.trans (hb3.mono hx2.out.size))
  have hm3 := Lib.hid (hm2.out.below hb3)
  have hI13 := Lib.hid (hI12.out.below hb3)
  have hI23 := Lib.hid (hI2'.out.below hb3)
  have c3 := manDecode_any _ 1 1 [1] w3 (hT.below hx3.out) hbl3
  rw [dec_one] at c3
  clear hb3a hmx hb3b hs3 hb3 hw3 hbl3 hm2 hI12 hI2'
  refine c3.mono ?_
  rintro e w4 ⟨⟨A4, n4, cc4, rfl, hI4⟩, hb4⟩
  have hx4 := Lib.hid (hx3.out.trans (hb4.mono hx3.out.size))
  have hm4 := hm3.out.below hb4
  have hmx4 := hmx3.below hb4
  have hI14 := hI13.out.below hb4
  have hI24 := hI23.out.below hb4
  clear c3 hb4 hI4 hm3 hI13 hI23 hmx3
  have hb5 := below_alloc w4 (.cells #[.int .i64 0, .int .i64 0, .slice A4 n4 cc4] 24)
  have hm5 := hm4.below hb5
  have hmx5 := hmx4.below hb5
  have hI15 := hI14.below hb5
  have hI25 := hI24.below hb5
  have hx5 := Lib.hid (hx4.out.trans (hb5.mono hx4.out.size))
  obtain ⟨w5, hw5⟩ : ∃ w5, w4.alloc (.cells #[.int .i64 0, .int .i64 0, .slice A4 n4 cc4] 24) = w5 := ⟨_, rfl⟩
  rw [hw5] at hm5 hmx5 hI15 hI25 hx5
  obtain ⟨k0, k1, k2, _⟩ := hm5.mf
  obtain ⟨l0, l1, l2, _⟩ := hmx5.mf
  have c5 := refSame_any 2 5 A2 n2 cc2 _ 2 2 [3, 4] w5 hI25 hI15
  clear hb5 hm5 hmx5 hI15 hI25 hm4 hmx4 hI14 hI24
  go_wp2_with fail
  refine c5.mono ?_
  rintro e w6 ⟨rfl, hb6⟩
  have hx6 := Lib.hid (hx5.out.trans (hb6.mono hx5.out.size))
  clear hb6 c5
  have c6 := manName_any 2 w6 (hT.below hx6.out)
  rw [name_two] at c6
  go_wp2_with fail
  refine c6.mono ?_
  rintro e w7 ⟨rfl, hb7⟩
  have hx7 := Lib.hid (hx6.out.trans (hb7.mono hx6.out.size))
  clear hb7 c6
  go_wp2_with fail
  go_ret
  exact ⟨rfl, hx7.out⟩
end Go.Proofs.YtpolobklcgfciaaDoor.Ma
