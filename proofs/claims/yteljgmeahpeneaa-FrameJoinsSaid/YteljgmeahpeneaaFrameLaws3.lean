/- The walk of the law FrameJoins. -/
import Derived.Test.YteljgmeahpeneaaFrameLaws2
namespace Go.Proofs.Yteljgmeahpeneaa
open Go.RowKit
theorem FrW.bytes_eq (A : Option Addr) (n c : Nat) (l : List UInt8) (A2 : Option Addr) (n2 c2 : Nat) (l2 : List UInt8) (w : World) (hBs : Bs w A n c l) (hBs2 : Bs w A2 n2 c2 l2) (he : decide (l = l2) = true) :
    Calls Try.prog 22 #[.slice A n c, .slice A2 n2 c2] w fun e w' => e = .returned (.bool true) ∧ ∃ k, w' = w.drewN k :=
  (FrW.bytes_any A n c l A2 n2 c2 l2 w hBs hBs2).mono fun e w' h => by rw [he] at h; exact h

namespace frameJoinsW
set_option maxRecDepth 100000 in
set_option maxHeartbeats 4000000 in
theorem walk (A : Option Addr) (n c : Nat) (ls : List (List UInt8)) (Ab0 : Option Addr) (nb cb0 : Nat) (lb : List UInt8) (w : World) (hBs : BsL w A n c ls) (hz : ∀ l ∈ ls, l.length ≤ 140737488351232)
    (hB : Bs w Ab0 nb cb0 lb) (_hz : cb0 ≤ 140737488351232) :
    Calls Try.prog 10 #[.slice A n c, .slice Ab0 nb cb0] w fun e w' => e = .returned (.bool true) ∧ Below w.heap.size w w' := by
  have hn := hBs.le
  have hm := hBs.max
  have HN : Hid (ls.length = n) := hBs.len
  have HNB : Hid (lb.length = nb) := hB.len
  have HZ := Lib.hid hz
  clear hz
  go_enter Try.func10, Try.ntmps10
  go_wp2_with fail
  refine (FrW.awake_any _).mono ?_
  rintro e w1 ⟨rfl, hb⟩
  by_cases hbig : 500 < n
  · go_wp2_with fail
    go_ret
    exact ⟨rfl, hb⟩
  have hn1 : n ≤ 500 := by omega
  clear hbig
  have hct : (cat ls).length ≤ 9223372036854775807 := cat_small HZ.out (by rw [HN.out]; omega)
  go_wp2_with fail
  refine (FrW.total_any _ _ _ ls _ (hBs.below hb) hct).mono ?_
  rintro e w' ⟨rfl, rfl⟩
  by_cases hbig : 8192 < (cat ls).length
  · go_wp2_with fail
    go_ret
    exact ⟨rfl, hb⟩
  have hsz : (cat ls).length ≤ 8192 := by omega
  clear hbig hct
  by_cases hbig : 8192 < nb
  · go_wp2_with fail
    go_ret
    exact ⟨rfl, hb⟩
  have hszb : nb ≤ 8192 := by omega
  clear hbig
  have HC' : Hid (∀ l ∈ ls, l.length ≤ 1048576) := fun l hl => by have := le_cat hl; omega
  have HP : Hid ((Fr.puts ls).length ≤ 12192) := by
    have h1 := Fr.puts_le ls
    have h2 := HN.out
    have h3 : ls.flatten.length ≤ 8192 := hsz
    unfold Hid
    omega
  go_wp2_with fail
  go_loopw [5, 6] (fun vb i wr => ∃ k Ab cb, k ≤ n ∧ i = .int .i64 (k : Nat) ∧ vb = .slice Ab (Fr.puts (ls.take k)).length cb ∧
    OwB wr w.heap.size 5 (.slice Ab (Fr.puts (ls.take k)).length cb) (Fr.puts (ls.take k)) ∧ Below w.heap.size w wr) (fun _ i _ => n - (intOf i).toNat)
  case atStart => exact ⟨0, none, 0, by omega, rfl, rfl, OwB.nil _ _ _, hb⟩
  case round =>
    obtain ⟨k, Ab, cb, hk, rfl, rfl, hob, hbw⟩ := hrel
    by_cases hlt : k < n
    · obtain ⟨b, off, A1, n1, c1, l1, rfl, hbs, hl, hc, hbs1⟩ := hBs.at_ hlt
      have HT : Hid (Fr.puts (ls.take (k + 1)) = Fr.puts (ls.take k) ++ Fr.put l1) := Fr.puts_take hl
      have HTL : Hid ((Fr.puts (ls.take (k + 1))).length ≤ 12192) := Nat.le_trans (Fr.puts_take_le ls (k + 1)) HP.out
      clear hl
      have hcw : wr.cell? ⟨b, off + k, none⟩ = some (.slice A1 n1 c1) := by rw [hbw.cell (by exact hbs)]; exact hc
      go_wp2_with fail
      refine (FrW.put_any _ _ _ l1 _ (hbs1.below hbw)).mono ?_
      rintro e w2 ⟨A2, c2, rfl, ho2, hb2⟩
      have hbw2 : Below w.heap.size w w2 := hbw.trans (hb2.mono hbw.size)
      have hob2 := hob.below hb2
      clear hcw hob hb2
      go_wp2_with (at_builtin; apply stop_here)
      refine Stop.go (append_bytes _ 22 5 Try.underlying22 info_u8 rfl _ _ rfl w.heap.size _ _ rfl hob2 _ _ _ (Fr.put l1) rfl ho2.bs ((Fr.puts (ls.take (k + 1))).length) (by rw [HT.out, List.length_append]) (by have := HTL.out; omega) hbw2.size ?_)
      intro A5 c5 w5 ho5 hg5 hb5
      rw [← HT.out] at ho5
      have hbw5 : Below w.heap.size w w5 := hbw2.trans hb5
      clear hg5 hb5 hob2 ho2
      go_wp2_with fail
      go_roundw
      case rel => exact ⟨k + 1, A5, c5, by omega, by go_num, rfl, ho5, hbw5⟩
      case measure => simp [intOf]; omega
    · obtain rfl : k = n := by omega
      have HF : Hid (ls.take k = ls) := by unfold Hid; rw [List.take_of_length_le (by rw [HN.out]; omega)]
      rw [HF.out] at hob ⊢
      have hpl := HP.out
      have HA := Lib.hid (Fr.all_puts_end ls HC'.out)
      have HJ := Lib.hid (Fr.all_puts ls lb HC'.out)
      have hyc : (Fr.all lb).1.length ≤ nb := by rw [← HNB.out]; exact Nat.le_trans (Fr.all_count lb) (Fr.all_le lb)
      have hyg : (Fr.all lb).2.1 ≤ nb := by rw [← HNB.out]; exact Fr.all_le lb
      have hwc : (Fr.whole ls).length ≤ 500 := by have := Fr.whole_le ls; have := HN.out; omega
      generalize hP : Fr.puts ls = P at *
      generalize hW : Fr.whole ls = W at *
      clear hP hW
      go_wp2_with fail
      refine (FrW.all_any _ _ _ _ _ hob.bs (by omega)).mono ?_
      rw [HA.out]
      rintro e w2 ⟨A2, c2, rfl, ho2, hb2⟩
      have hbw2 : Below w.heap.size w w2 := hbw.trans (hb2.mono hbw.size)
      have hX := ho2.bsl
      have hob2 := hob.bs.below hb2
      have hB2 := hB.below hbw2
      clear hb2 ho2 hob hbw
      go_wp2_with fail
      refine (FrW.all_any _ _ _ _ _ hB2 (by omega)).mono ?_
      rintro e w3 ⟨A3, c3, rfl, ho3, hb3⟩
      have hbw3 : Below w.heap.size w w3 := hbw2.trans (hb3.mono hbw2.size)
      have hX3 := hX.below hb3
      have hY3 := ho3.bsl
      have hob3 := hob2.below hb3
      have hB3 := hB2.below hb3
      clear hb3 ho3 hob2 hB2 hX hbw2
      generalize hR : Fr.all lb = R at *
      obtain ⟨Y, gb, sb⟩ := R
      simp only at *
      clear hR
      go_wp2_with (at_builtin; apply stop_here)
      have hs3 := hbw3.size
      refine Stop.go (append_bytes _ 22 5 Try.underlying22 info_u8 rfl _ _ rfl w3.heap.size _ [] rfl (owb_lit _ _ (Nat.le_refl _) _ _ _ _ rfl (by decide) rfl) _ _ _ P rfl (hob3.below (below_alloc _ _)) P.length (by simp) (by omega) (by simp) ?_)
      intro A4 c4 w4 ho4 hg4 hb4
      have h34 : Below w3.heap.size w3 w4 := (below_alloc w3 _).trans hb4
      have hs34 := h34.size
      clear hg4 hb4
      go_wp2_with (at_builtin; apply stop_here)
      refine Stop.go (append_bytes _ 22 5 Try.underlying22 info_u8 rfl _ _ rfl w3.heap.size _ _ rfl ho4 _ _ _ lb rfl (hB3.below h34) (P.length + nb) (by simp) (by omega) hs34 ?_)
      intro A5 c5 w5 ho5 hg5 hb5
      have h35 : Below w3.heap.size w3 w5 := h34.trans hb5
      have hbw5 : Below w.heap.size w w5 := hbw3.trans (h35.mono hs3)
      have hZ5 : Bs w5 A5 (P.length + nb) c5 (P ++ lb) := by simpa using ho5.bs
      have hX5 := hX3.below h35
      have hY5 := hY3.below h35
      clear hg5 hb5 ho5 ho4 hX3 hY3 hob3 hB3 h34 h35 hs34
      go_wp2_with fail
      refine (FrW.all_any _ _ _ _ _ hZ5 (by omega)).mono ?_
      rw [HJ.out]
      rintro e w6 ⟨A6, c6, rfl, ho6, hb6⟩
      have hbw6 : Below w.heap.size w w6 := hbw5.trans (hb6.mono hbw5.size)
      have hX6 := hX5.below hb6
      have hY6 := hY5.below hb6
      have hZ6 := ho6.bsl
      clear hb6 ho6 hX5 hY5 hZ5 hbw5
      have HL : Hid ((W ++ Y).length = W.length + Y.length) := List.length_append
      simp only at hZ6
      rw [HL.out] at hZ6
      have hz1 : ((W ++ Y).length : Int) = (W.length : Int) + (Y.length : Int) := by rw [HL.out]; omega
      have hxm := hX6.max
      have hym := hY6.max
      have hzm := hZ6.max
      have hxl := hX6.le
      have hyl := hY6.le
      have hzl := hZ6.le
      go_wp2_with fail
      clear hz1
      go_loopw [16] (fun i wr => ∃ i' m : Nat, i' ≤ W.length + Y.length ∧ i = .int .i64 (i' : Nat) ∧ wr = w6.drewN m) (fun i _ => W.length + Y.length - (intOf i).toNat)
      case atStart => exact ⟨0, 0, by omega, rfl, rfl⟩
      case round =>
        obtain ⟨i, m, hi, rfl, rfl⟩ := hrel
        by_cases hlt : i < W.length + Y.length
        · obtain ⟨bz, oz, Az, nz, cz, lz, rfl, _, hlz, hcz, hbz⟩ := hZ6.at_ hlt
          by_cases hiw : i < W.length
          · obtain ⟨bx, ox, Ax, nx, cx, lx, rfl, _, hlx, hcx, hbx⟩ := hX6.at_ hiw
            have HD : Hid (decide (lz = lx) = true) := by
              unfold Hid
              rw [List.getElem?_append_left hiw, hlx] at hlz
              injection hlz with h
              simp [h]
            have hd1 : (w6.drewN m).cell? ⟨bz, oz + i, none⟩ = some (.slice Az nz cz) := hcz
            have hd2 : (w6.drewN m).cell? ⟨bx, ox + i, none⟩ = some (.slice Ax nx cx) := hcx
            have hb1 : Bs (w6.drewN m) Az nz cz lz := hbz.below (Joins.below_draws _ _ _)
            have hb2 : Bs (w6.drewN m) Ax nx cx lx := hbx.below (Joins.below_draws _ _ _)
            clear hlz hlx hcz hcx hbz hbx
            generalize hwm : w6.drewN m = wm at *
            have HWM := Lib.hid hwm
            clear hwm
            have i0 : (i : Int) < (W.length : Int) := by omega
            have i1 : (i : Int) < (W.length : Int) + (Y.length : Int) := by omega
            have i2 : decide (i < W.length) = true := by simpa using hiw
            have i3 : decide (W.length ≤ i) = false := by simpa using hiw
            go_wp2_with fail
            go_quiet ((go_at_call 22; exact Calls.quiet_of (FrW.bytes_eq _ _ _ lz _ _ _ lx _ (hb1.below (Joins.below_draws _ _ _)) (hb2.below (Joins.below_draws _ _ _)) HD.out)))
            go_wp2_with fail
            go_roundw
            case rel => exact ⟨i + 1, _, by omega, by go_num, by rw [← HWM.out, World.drewN_drewN]⟩
            case measure => simp [intOf]; omega
          · have hiw' : W.length ≤ i := by omega
            obtain ⟨bx, ox, Ax, nx, cx, lx, rfl, _, hlx, hcx, hbx⟩ := hY6.at_ (k := i - W.length) (by omega)
            have HD : Hid (decide (lz = lx) = true) := by
              unfold Hid
              rw [List.getElem?_append_right hiw', hlx] at hlz
              injection hlz with h
              simp [h]
            have hd1 : (w6.drewN m).cell? ⟨bz, oz + i, none⟩ = some (.slice Az nz cz) := hcz
            have hd2 : (w6.drewN m).cell? ⟨bx, ox + (i - W.length), none⟩ = some (.slice Ax nx cx) := hcx
            have hb1 : Bs (w6.drewN m) Az nz cz lz := hbz.below (Joins.below_draws _ _ _)
            have hb2 : Bs (w6.drewN m) Ax nx cx lx := hbx.below (Joins.below_draws _ _ _)
            clear hlz hlx hcz hcx hbz hbx
            generalize hwm : w6.drewN m = wm at *
            have HWM := Lib.hid hwm
            clear hwm
            have i1 : (i : Int) < (W.length : Int) + (Y.length : Int) := by omega
            have i2 : decide (i < W.length) = false := by simpa using hiw
            have i3 : decide (W.length ≤ i) = true := by simpa using hiw'
            have i4 : (0 : Int) ≤ (i : Int) - (W.length : Int) := by omega
            have i5 : (i : Int) - (W.length : Int) < (Y.length : Int) := by omega
            go_wp2_with fail
            go_quiet ((go_at_call 22; exact Calls.quiet_of (FrW.bytes_eq _ _ _ lz _ _ _ lx _ (hb1.below (Joins.below_draws _ _ _)) (hb2.below (Joins.below_draws _ _ _)) HD.out)))
            go_wp2_with fail
            go_roundw
            case rel => exact ⟨i + 1, _, by omega, by go_num, by rw [← HWM.out, World.drewN_drewN]⟩
            case measure => simp [intOf]; omega
        · obtain rfl : i = W.length + Y.length := by omega
          go_wp2_with fail
          go_ret
          exact ⟨rfl, hbw6.trans (Joins.below_draws _ _ _)⟩
end frameJoinsW

end Go.Proofs.Yteljgmeahpeneaa
