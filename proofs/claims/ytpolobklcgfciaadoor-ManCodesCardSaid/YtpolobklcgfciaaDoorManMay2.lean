/- Whether a manifest may be: the document's. -/
import Derived.Test.YtpolobklcgfciaaDoorManMay
namespace Go.Proofs.YtpolobklcgfciaaDoor.Ma
open Go.RowKit Go.Shelf

theorem Mf.draws {w : World} {b : Nat} {g la : Int} {A : Option Addr} {n c : Nat} (h : Mf w b g la A n c) (p : Nat) : Mf (w.drewN p) b g la A n c := h.below (Joins.below_draws _ _ _)

set_option maxHeartbeats 4000000 in
set_option maxRecDepth 100000 in
/-- The document's May. -/
theorem refMay_any (g la : Int) (A : Option Addr) (n c : Nat) (ss : List Int) (w : World) (hI : Is w A n c ss) :
    Calls Tryd.prog 6 #[.agg #[.int .i64 g, .int .i64 la, .slice A n c]] w fun e w' => e = .returned (.bool (mayM g la ss)) ∧ Below w.heap.size w w' := by
  have hn := hI.len
  have hle := Rd.le hI
  have hm := Rd.max hI
  obtain ⟨R, hR⟩ : ∃ R, mayM g la ss = R := ⟨_, rfl⟩
  have hR2 := hR
  unfold mayM at hR2
  rw [hn, ← Bool.and_assoc] at hR2
  rw [hR]
  clear hR
  have hn' := Lib.hid hn
  clear hn
  obtain ⟨B, hB⟩ : ∃ B, (okN g && decide (0 ≤ la ∧ la ≤ 200 ∧ 1 ≤ n ∧ n ≤ 64)) = B := ⟨_, rfl⟩
  rw [hB] at hR2
  have hR' := Lib.hid hR2
  clear hR2
  have hm0 := mf_new w g la A n c 24
  have hb0 := below_alloc w (.cells #[.int .i64 g, .int .i64 la, .slice A n c] 24)
  go_enter Tryd.func6, Tryd.ntmps6
  obtain ⟨w1, hw1⟩ : ∃ w1, w.alloc (.cells #[.int .i64 g, .int .i64 la, .slice A n c] 24) = w1 := ⟨_, rfl⟩
  have hI1 := Lib.hid (hI.below hb0)
  rw [hw1] at hm0 hb0 hI1
  have hx1 := Lib.hid hb0
  clear hb0 hI
  obtain ⟨k0, k1, k2, hsz1⟩ := hm0
  have hm1 : Hid (Mf w1 w.heap.size g la A n c) := Lib.hid ⟨k0, k1, k2, hsz1⟩
  go_upto_region 1 with fail
  go_cut [3] (fun v wx => v = .bool B ∧ wx = w1)
  case first =>
    go_wp2_with fail
    refine (may7_any g _).mono ?_
    rintro e w2 ⟨rfl, rfl⟩
    cases hok : okN g
    · have hBf : B = false := by rw [← hB, hok, Bool.false_and]
      go_wp2_with fail
      all_goals (go_meet; exact ⟨val_bool hBf.symm, rfl⟩)
    · rw [hok, Bool.true_and] at hB
      have hB' := Lib.hid hB
      clear hB
      go_wp2_with fail
      all_goals go_meet
      all_goals refine ⟨val_bool ?_, rfl⟩
      all_goals rw [← hB'.out, Bool.eq_iff_iff]
      all_goals simp
      all_goals omega
  case rest =>
    obtain ⟨rfl, hwx⟩ := hcut
    rw [hwx]
    clear hwx
    go_wp2_with fail
    clear k0 k1 k2 hw1 hB
    go_loopw [3, 4] (fun o v wr => ∃ k p : Nat, k ≤ n ∧ v = .int .i64 (k : Nat) ∧ o = .bool (B && segsTo ss k) ∧ wr = w1.drewN p) (fun _ v _ => n - (intOf v).toNat)
    case atStart => exact ⟨0, 0, by omega, rfl, by rw [segsTo, Bool.and_true], rfl⟩
    case round =>
      obtain ⟨k, p, hk, rfl, rfl, rfl⟩ := hrel
      have hmr := hm1.out.draws p
      have hIr := hI1.out.below (Joins.below_draws _ w1 p)
      have hxr := Lib.hid (hx1.out.trans ((Joins.below_draws _ w1 p).mono hx1.out.size))
      obtain ⟨wr, hwr⟩ : ∃ wr, w1.drewN p = wr := ⟨_, rfl⟩
      have hdr : ∀ q, wr.drewN q = w1.drewN (p + q) := fun q => by rw [← hwr, World.drewN_drewN]
      rw [hwr] at hmr hIr hxr ⊢
      have hdr' := Lib.hid hdr
      clear hdr hwr
      obtain ⟨k0, k1, k2, hsz⟩ := hmr
      by_cases hlt : k < n
      · have i0 : decide ((k : Int) < (n : Int)) = true := by simp; omega
        have i1 : (k : Int) < (n : Int) := by omega
        obtain ⟨b, off, x, rfl, hbl, hxk, hck⟩ := hIr.at_ hlt
        have hgx : ss[k]?.getD 0 = x := by rw [hxk]; rfl
        have hseg : (B && segsTo ss (k + 1)) = ((B && segsTo ss k) && (okN x && (decide (k = 0) || decide (ss[k - 1]?.getD 0 < x)))) := by rw [segsTo, seg1, hgx, Bool.and_assoc]
        obtain ⟨S, hS⟩ : ∃ S, (B && segsTo ss k) = S := ⟨_, rfl⟩
        rw [hS] at hseg ⊢
        have hseg' := Lib.hid hseg
        have hgx' := Lib.hid hgx
        clear hxk hgx hseg hS
        cases S
        · go_wp2_with fail
          go_quiet ((go_at_call 18; exact Calls.quiet_of_same (may7_any _ _)))
          go_wp2_with fail
          go_roundw
          case rel => exact ⟨k + 1, _, by omega, by go_num, val_bool (by rw [hseg'.out]; rfl), hdr'.out _⟩
          case measure => simp [intOf]; omega
        · by_cases h0 : k = 0
          · subst h0
            rw [Nat.add_zero] at hck
            cases hox : okN x
            · have hm7 : ∀ w, Calls Tryd.prog 18 #[.int .i64 x] w fun e w' => e = .returned (.bool false) ∧ w' = w := fun w => by
                have := may7_any x w
                rw [hox] at this
                exact this
              go_wp2_with fail
              go_quiet ((go_at_call 18; exact Calls.quiet_of_same (hm7 _)))
              go_wp2_with fail
              go_roundw
              case rel => exact ⟨0 + 1, _, by omega, by go_num, val_bool (by rw [hseg'.out, hox]; rfl), hdr'.out _⟩
              case measure => simp [intOf]; omega
            · have hm7 : ∀ w, Calls Tryd.prog 18 #[.int .i64 x] w fun e w' => e = .returned (.bool true) ∧ w' = w := fun w => by
                have := may7_any x w
                rw [hox] at this
                exact this
              go_wp2_with fail
              go_quiet ((go_at_call 18; exact Calls.quiet_of_same (hm7 _)))
              go_wp2_with fail
              go_roundw
              case rel => exact ⟨0 + 1, _, by omega, by go_num, val_bool (by rw [hseg'.out, hox]; rfl), hdr'.out _⟩
              case measure => simp [intOf]; omega
          · obtain ⟨q, rfl⟩ : ∃ q, k = q + 1 := ⟨k - 1, by omega⟩
            obtain ⟨b', off', y, hy1, hbl2, hyk, hcy⟩ := hIr.at_ (k := q) (by omega)
            simp only [Option.some.injEq, Addr.mk.injEq, and_true] at hy1
            obtain ⟨rfl, rfl⟩ := hy1
            have hgy : ss[q]?.getD 0 = y := by rw [hyk]; rfl
            have hseg2 : (B && segsTo ss (q + 1 + 1)) = (okN x && decide (y < x)) := by
              rw [hseg'.out, Nat.add_sub_cancel, hgy, decide_eq_false h0]
              rfl
            have hseg2' := Lib.hid hseg2
            clear hyk hgy hseg2
            have q1 : (q : Int) < (n : Int) := by omega
            have q2 : ((q : Int) + 1 == 0) = false := by rw [beq_eq_false_iff_ne]; omega
            have q3 : decide ((q : Int) + 1 = 0) = false := by simp; omega
            cases hox : okN x
            · have hm7 : ∀ w, Calls Tryd.prog 18 #[.int .i64 x] w fun e w' => e = .returned (.bool false) ∧ w' = w := fun w => by
                have := may7_any x w
                rw [hox] at this
                exact this
              go_wp2_with fail
              go_quiet ((go_at_call 18; exact Calls.quiet_of_same (hm7 _)))
              go_wp2_with fail
              go_roundw
              case rel => exact ⟨q + 1 + 1, _, by omega, by go_num, val_bool (by rw [hseg2'.out, hox]; rfl), hdr'.out _⟩
              case measure => simp [intOf]; omega
            · have hm7 : ∀ w, Calls Tryd.prog 18 #[.int .i64 x] w fun e w' => e = .returned (.bool true) ∧ w' = w := fun w => by
                have := may7_any x w
                rw [hox] at this
                exact this
              obtain ⟨Y, hY⟩ : ∃ Y, decide (y < x) = Y := ⟨_, rfl⟩
              go_wp2_with fail
              go_quiet ((go_at_call 18; exact Calls.quiet_of_same (hm7 _)))
              go_wp2_with fail
              go_roundw
              case rel => exact ⟨q + 1 + 1, _, by omega, by go_num, val_bool (by rw [hseg2'.out, hox, Bool.true_and, hY]), hdr'.out _⟩
              case measure => simp [intOf]; omega
      · have i0 : decide ((k : Int) < (n : Int)) = false := by simp; omega
        obtain rfl : k = n := by omega
        have hr := hR'.out
        go_wp2_with fail
        go_ret
        exact ⟨ret_bool hr, hxr.out⟩
end Go.Proofs.YtpolobklcgfciaaDoor.Ma
