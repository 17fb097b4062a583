/- The laws over man: awake. -/
import Derived.Test.YtfdpnjebhllpkaaGreatDoorMMnCod
section
namespace Go.Proofs.YtfdpnjebhllpkaaGreatDoor.Ma
open Go.RowKit Go.Shelf

set_option maxHeartbeats 1000000 in
set_option maxRecDepth 100000 in
/-- The document's Same, of two manifests that are the same. -/
theorem refSame_any (g la : Int) (A : Option Addr) (n c : Nat) (A2 : Option Addr) (n2 c2 : Nat) (ss : List Int) (w : World) (hI : Is w A n c ss) (hI2 : Is w A2 n2 c2 ss) :
    Calls Tryz.prog 50 #[.agg #[.int .i64 g, .int .i64 la, .slice A n c], .agg #[.int .i64 g, .int .i64 la, .slice A2 n2 c2]] w fun e w' => e = .returned (.bool true) ∧ Below w.heap.size w w' := by
  obtain rfl : n = n2 := hI.len.symm.trans hI2.len
  have hle := Rd.le hI
  have hm := Rd.max hI
  have hle2 := Rd.le hI2
  have hm2 := Rd.max hI2
  have hn' := Lib.hid hI.len
  have hb0 := below_alloc w (.cells #[.int .i64 g, .int .i64 la, .slice A n c] 75)
  have hb1 := below_alloc (w.alloc (.cells #[.int .i64 g, .int .i64 la, .slice A n c] 75)) (.cells #[.int .i64 g, .int .i64 la, .slice A2 n c2] 75)
  have hm0 := (mb_new w g la A n c).below hb1
  have hm1 := mb_new (w.alloc (.cells #[.int .i64 g, .int .i64 la, .slice A n c] 75)) g la A2 n c2
  have hI1 := (hI.below hb0).below hb1
  have hI3 := (hI2.below hb0).below hb1
  have hx := hb0.trans (hb1.mono hb0.size)
  have hs1 : (w.alloc (.cells #[.int .i64 g, .int .i64 la, .slice A n c] 75)).heap.size = w.heap.size + 1 := by simp
  rw [hs1] at hm1
  obtain ⟨wz, hwz⟩ : ∃ wz, (w.alloc (.cells #[.int .i64 g, .int .i64 la, .slice A n c] 75)).alloc (.cells #[.int .i64 g, .int .i64 la, .slice A2 n c2] 75) = wz := ⟨_, rfl⟩
  rw [hwz] at hm0 hm1 hI1 hI3 hx
  clear hb0 hb1 hs1 hI hI2
  have hx' := Lib.hid hx
  clear hx
  go_enter Tryz.func50, Tryz.ntmps50
  go_upto_region 1 with fail
  obtain ⟨k0, k1, k2, _⟩ := hm0.mf
  obtain ⟨l0, l1, l2, _⟩ := hm1.mf
  go_wp2_with fail
  go_loopw [5] (fun v wr => ∃ k p : Nat, k ≤ n ∧ v = .int .i64 (k : Nat) ∧ wr = wz.drewN p) (fun v _ => n - (intOf v).toNat)
  case atStart => exact ⟨0, 0, by omega, rfl, rfl⟩
  case round =>
    obtain ⟨k, p, hk, rfl, rfl⟩ := hrel
    have hbp := Joins.below_draws wz.heap.size wz p
    obtain ⟨k0, k1, k2, _⟩ := (hm0.below hbp).mf
    obtain ⟨l0, l1, l2, _⟩ := (hm1.below hbp).mf
    have hIa := hI1.below hbp
    have hIb := hI3.below hbp
    have hxr := Lib.hid (hx'.out.trans (hbp.mono hx'.out.size))
    obtain ⟨wr, hwr⟩ : ∃ wr, wz.drewN p = wr := ⟨_, rfl⟩
    have hdr : ∀ q, wr.drewN q = wz.drewN (p + q) := fun q => by rw [← hwr, World.drewN_drewN]
    rw [hwr] at k0 k1 k2 l0 l1 l2 hIa hIb hxr ⊢
    have hdr' := Lib.hid hdr
    clear hdr hwr hbp
    by_cases hlt : k < n
    · have i0 : decide ((k : Int) < (n : Int)) = true := by simp; omega
      have i1 : (k : Int) < (n : Int) := by omega
      obtain ⟨b, off, x, rfl, _, hxk, hc⟩ := hIa.at_ hlt
      obtain ⟨b2, off2, y, rfl, _, hyk, hc2⟩ := hIb.at_ hlt
      obtain rfl : x = y := Option.some.inj (hxk.symm.trans hyk)
      have hne : (x != x) = false := by simp
      clear hxk hyk
      go_wp2_with fail
      go_quiet (fail)
      go_wp2_with fail
      go_roundw
      case rel => exact ⟨k + 1, _, by omega, by go_num, hdr'.out _⟩
      case measure => simp [intOf]; omega
    · have i0 : decide ((k : Int) < (n : Int)) = false := by simp; omega
      go_wp2_with fail
      go_ret
      exact ⟨rfl, hxr.out⟩
end Go.Proofs.YtfdpnjebhllpkaaGreatDoor.Ma
end

section
namespace Go.Proofs.YtfdpnjebhllpkaaGreatDoor.Ma
open Go.RowKit Go.Shelf

theorem may_ex : mayM 2 5 [3, 4] = true := by decide
theorem dec_one : decM [1] = (false, 0, 0, []) := by decide
theorem name_two : strOf (nameOf [109, 97, 110, 46] 2) = ⟨#[109, 97, 110, 46, 48, 48, 48, 48, 48, 48, 48, 50]⟩ := by decide

set_option maxHeartbeats 2000000 in
set_option maxRecDepth 100000 in
theorem awake_any (w : World) (hT : Nu.Tens w) :
    Calls Tryz.prog 42 #[] w fun e w' => e = .returned (.bool true) ∧ Below w.heap.size w w' := by
  have hz0 := owz_lit w w.heap.size (Nat.le_refl _) #[.int .i64 3, .int .i64 4] 3 [3, 4] 2 rfl (by omega) rfl
  have hI0 : Is (w.alloc (.cells #[.int .i64 3, .int .i64 4] 3)) (some ⟨w.heap.size, 0, none⟩) 2 2 [3, 4] := hz0.rd
  have hb0 := below_alloc w (.cells #[.int .i64 3, .int .i64 4] 3)
  go_enter Tryz.func42, Tryz.ntmps42
  go_wp2_with fail
  have hbm := below_alloc (w.alloc (.cells #[.int .i64 3, .int .i64 4] 3)) (.cells #[.int .i64 2, .int .i64 5, .slice (some ⟨w.heap.size, 0, none⟩) 2 2] 75)
  have hmb := mb_new (w.alloc (.cells #[.int .i64 3, .int .i64 4] 3)) 2 5 (some ⟨w.heap.size, 0, none⟩) 2 2
  have hs1 : (w.alloc (.cells #[.int .i64 3, .int .i64 4] 3)).heap.size = w.heap.size + 1 := by simp
  rw [hs1] at hmb
  have hIm := hI0.below hbm
  have hxm := hb0.trans (hbm.mono hb0.size)
  obtain ⟨wm, hwm⟩ : ∃ wm, (w.alloc (.cells #[.int .i64 3, .int .i64 4] 3)).alloc (.cells #[.int .i64 2, .int .i64 5, .slice (some ⟨w.heap.size, 0, none⟩) 2 2] 75) = wm := ⟨_, rfl⟩
  rw [hwm] at hmb hIm hxm ⊢
  clear hz0 hI0 hb0 hbm hs1 hwm
  have c1 := manEncode_any 2 5 _ 2 2 [3, 4] wm (hT.below hxm) hIm
  have hlen := (encM_len may_ex).1
  obtain ⟨E, hE⟩ : ∃ E, encM 2 5 [3, 4] = E := ⟨_, rfl⟩
  have hdec : decM E = (true, 2, 5, [3, 4]) := by rw [← hE]; exact decM_encM may_ex
  rw [hE] at c1 hlen
  have hl32 : E.length = 32 := hlen
  rw [hl32] at c1
  have hdec' := Lib.hid hdec
  clear hE hlen hl32 hdec
  refine c1.mono ?_
  rintro e w1 ⟨A1, cc1, rfl, ho1, hb1⟩
  have hx1 := Lib.hid (hxm.trans (hb1.mono hxm.size))
  have hm1 := Lib.hid (hmb.below hb1)
  have hI1 := Lib.hid (hIm.below hb1)
  have hB1 := Lib.hid ho1.bs
  clear c1 hxm hmb hIm ho1 hb1
  have c2 := manDecode_any A1 32 cc1 E w1 (hT.below hx1.out) hB1.out
  rw [hdec'.out] at c2
  go_wp2_with fail
  refine c2.mono ?_
  rintro e w2 ⟨⟨A2, n2, cc2, rfl, hI2⟩, hb2⟩
  have hx2 := Lib.hid (hx1.out.trans (hb2.mono hx1.out.size))
  have hm2 := Lib.hid (hm1.out.below hb2)
  have hI12 := Lib.hid (hI1.out.below hb2)
  have hI2' := Lib.hid hI2
  clear c2 hb2 hI2 hm1 hI1
  go_wp2_with fail
  have hb3a := below_alloc w2 (.cells #[.int .i64 2, .int .i64 5, .slice A2 n2 cc2] 75)
  have hmx := mb_new w2 2 5 A2 n2 cc2
  have hbl3 := bs_lit (w2.alloc (.cells #[.int .i64 2, .int .i64 5, .slice A2 n2 cc2] 75)) #[.int .u8 1] 5 (0, 0) [1] 1 rfl (by omega) rfl
  have hb3b := below_alloc (w2.alloc (.cells #[.int .i64 2, .int .i64 5, .slice A2 n2 cc2] 75)) (.cells #[.int .u8 1] 5)
  have hs3 : (w2.alloc (.cells #[.int .i64 2, .int .i64 5, .slice A2 n2 cc2] 75)).heap.size = w2.heap.size + 1 := by simp
  have hmx3 := hmx.below hb3b
  have hb3 := hb3a.trans (hb3b.mono hb3a.size)
  rw [hs3] at hbl3
  obtain ⟨w3, hw3⟩ : ∃ w3, (w2.alloc (.cells #[.int .i64 2, .int .i64 5, .slice A2 n2 cc2] 75)).alloc (.cells #[.int .u8 1] 5) = w3 := ⟨_, rfl⟩
  rw [hw3] at hmx3 hb3 hbl3 ⊢
  have hx3 := Lib.hid (hx2.out.trans (hb3.mono hx2.out.size))
  have hm3 := Lib.hid (hm2.out.below hb3)
  have hI13 := Lib.hid (hI12.out.below hb3)
  have hI23 := Lib.hid (hI2'.out.below hb3)
  have c3 := manDecode_any _ 1 1 [1] w3 (hT.below hx3.out) hbl3
  rw [dec_one] at c3
  clear hb3a hmx hb3b hs3 hb3 hw3 hbl3 hm2 hI12 hI2'
  refine c3.mono ?_
  rintro e w4 ⟨⟨A4, n4, cc4, rfl, hI4⟩, hb4⟩
  have hx4 := Lib.hid (hx3.out.trans (hb4.mono hx3.out.size))
  have hm4 := hm3.out.below hb4
  have hmx4 := hmx3.below hb4
  have hI14 := hI13.out.below hb4
  have hI24 := hI23.out.below hb4
  clear c3 hb4 hI4 hm3 hI13 hI23 hmx3
  have hb5 := below_alloc w4 (.cells #[.int .i64 0, .int .i64 0, .slice A4 n4 cc4] 75)
  have hm5 := hm4.below hb5
  have hmx5 := hmx4.below hb5
  have hI15 := hI14.below hb5
  have hI25 := hI24.below hb5
  have hx5 := Lib.hid (hx4.out.trans (hb5.mono hx4.out.size))
  obtain ⟨w5, hw5⟩ : ∃ w5, w4.alloc (.cells #[.int .i64 0, .int .i64 0, .slice A4 n4 cc4] 75) = w5 := ⟨_, rfl⟩
  rw [hw5] at hm5 hmx5 hI15 hI25 hx5
  obtain ⟨k0, k1, k2, _⟩ := hm5.mf
  obtain ⟨l0, l1, l2, _⟩ := hmx5.mf
  have c5 := refSame_any 2 5 A2 n2 cc2 _ 2 2 [3, 4] w5 hI25 hI15
  clear hb5 hm5 hmx5 hI15 hI25 hm4 hmx4 hI14 hI24
  go_wp2_with fail
  refine c5.mono ?_
  rintro e w6 ⟨rfl, hb6⟩
  have hx6 := Lib.hid (hx5.out.trans (hb6.mono hx5.out.size))
  clear hb6 c5
  have c6 := manName_any 2 w6 (hT.below hx6.out)
  rw [name_two] at c6
  go_wp2_with fail
  refine c6.mono ?_
  rintro e w7 ⟨rfl, hb7⟩
  have hx7 := Lib.hid (hx6.out.trans (hb7.mono hx6.out.size))
  clear hb7 c6
  go_wp2_with fail
  go_ret
  exact ⟨rfl, hx7.out⟩
end Go.Proofs.YtfdpnjebhllpkaaGreatDoor.Ma
end
