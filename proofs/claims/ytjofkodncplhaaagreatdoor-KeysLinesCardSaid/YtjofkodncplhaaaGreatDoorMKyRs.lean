/- The document's Small. -/
import Derived.Test.YtjofkodncplhaaaGreatDoorMKyRb
namespace Go.Proofs.YtjofkodncplhaaaGreatDoor.Ky
open Go.RowKit Go.Shelf UtfW

/-- Lengths as memory has them. -/
def Big (l : List Rl) : Prop := ∀ r ∈ l, (r.1.length ≤ 140737488351232 ∧ r.2.length ≤ 140737488351232) ∧ (∀ x ∈ r.1, x.length ≤ 140737488351232) ∧ ∀ x ∈ r.2, x.length ≤ 140737488351232

set_option maxHeartbeats 4000000 in
set_option maxRecDepth 100000 in
/-- The document's Small. -/
theorem refSmall_any (A : Option Addr) (n c : Nat) (l : List Rl) (w : World) (h : Rs w A n c l) (hS : Big l) :
    Calls Tryz.prog 9 #[.slice A n c] w fun e w' => ∃ V : Bool, e = .returned (.bool V) ∧ (V = true → wts l < 3000) ∧ Below w.heap.size w w' := by
  have hl' := Lib.hid h.len
  have hm := h.max
  have hle := h.le
  have h' := Lib.hid h
  have hS' := Lib.hid hS
  clear h hS
  go_enter Tryz.func9, Tryz.ntmps9
  go_wp2_with fail
  go_loopw [3, 4] (fun o i wr => ∃ (k s : Nat), k ≤ n ∧ s < 3000 ∧ i = .int .i64 k ∧ o = .int .i64 s ∧ Hid (s = wts (l.take k)) ∧ Hid (Below w.heap.size w wr)) (fun _ i _ => n - (intOf i).toNat)
  case atStart => exact ⟨0, 0, by omega, by omega, rfl, rfl, Lib.hid rfl, Lib.hid (Below.refl _ _)⟩
  case round =>
    obtain ⟨k, s, hk, hs3, rfl, rfl, hs, hb⟩ := hrel
    by_cases hlt : k < n
    · have i1 : decide ((k : Int) < (n : Int)) = true := by rw [decide_eq_true_eq]; omega
      have i2 : decide (k < n) = true := by rw [decide_eq_true_eq]; omega
      have i3 : (k : Int) < (n : Int) := by omega
      obtain ⟨b, off, r, A1, n1, c1, A2, n2, c2, rfl, hbl, hr, t1, t2, k0, k1⟩ := Rs.at_ (h'.out.below hb.out) hlt
      obtain ⟨⟨g1, g2⟩, g3, g4⟩ := hS'.out r (List.mem_of_getElem? hr)
      have hl1 := t1.len
      have hl2 := t2.len
      have hle1 := Rd.le t1
      have hle2 := Rd.le t2
      have hm1 := Rd.max t1
      have hm2 := Rd.max t2
      have hn1 : n1 ≤ 140737488351232 := by omega
      have hn2 : n2 ≤ 140737488351232 := by omega
      have g3' := Lib.hid g3
      have g4' := Lib.hid g4
      have t1' := Lib.hid t1
      have t2' := Lib.hid t2
      have hl1' := Lib.hid hl1
      have hl2' := Lib.hid hl2
      have hwt : Hid (wts (l.take (k + 1)) = s + (1 + n1 + n2 + lens r.1 + lens r.2)) := Lib.hid (by
        rw [wts_take hr, ← hs.out]
        unfold wt
        rw [hl1, hl2])
      clear hr g1 g2 g3 g4 t1 t2 hl1 hl2
      go_wp2_with fail
      go_quiet (fail)
      have hq0 : Below wr.heap.size wr (wr.drewN nq) := Joins.below_draws _ _ _
      have hbq := Lib.hid (hb.out.trans (hq0.mono hb.out.size))
      have t1q := Lib.hid (t1'.out.below hq0)
      have t2q := Lib.hid (t2'.out.below hq0)
      have y0 := (hq0.cell hbl).trans k0
      have y1 := (hq0.cell hbl).trans k1
      obtain ⟨wz, hwz⟩ : ∃ wz, wr.drewN nq = wz := ⟨_, rfl⟩
      rw [hwz] at hbq t1q t2q y0 y1 ⊢
      clear hq0 hwz k0 k1 hb t1' t2' i3 hbl
      obtain ⟨wo, hwo⟩ : ∃ wo, wo = wr := ⟨wr, rfl⟩
      subst hwo
      go_wp2_with fail
      go_loopw [3, 5] (fun o i wq => ∃ (j s2 : Nat), j ≤ n1 ∧ s2 ≤ 562949953421312 ∧ i = .int .i64 j ∧ o = .int .i64 s2 ∧ Hid (s2 = s + (1 + n1 + n2) + lens (r.1.take j)) ∧ wq = wz) (fun _ i _ => n1 - (intOf i).toNat)
      case atStart => exact ⟨0, s + 1 + n1 + n2, by omega, by omega, rfl, by go_num, Lib.hid (by simp [lens]; omega), by first | rfl | trivial⟩
      case round =>
        clear i1 i2
        obtain ⟨j, s2, hj, hs2, rfl, rfl, hsv, rfl⟩ := hrel
        obtain ⟨V, hV⟩ : ∃ V, decide (j < n1 ∧ s2 < 3000) = V := ⟨_, rfl⟩
        have hV' := Lib.hid hV
        clear hV
        go_upto_region 7 with fail
        go_cut [40] (fun v wx => v = .bool V ∧ wx = wr)
        case first =>
          by_cases hj1 : j < n1
          · have i1 : decide ((j : Int) < (n1 : Int)) = true := by rw [decide_eq_true_eq]; omega
            have i2 : decide (j < n1) = true := by rw [decide_eq_true_eq]; omega
            by_cases hs4 : s2 < 3000
            · have i4 : decide ((s2 : Int) < 3000) = true := by rw [decide_eq_true_eq]; omega
              have i5 : decide (s2 < 3000) = true := by rw [decide_eq_true_eq]; omega
              have i6 := Lib.hid (hV'.out.symm.trans (decide_eq_true (show j < n1 ∧ s2 < 3000 from ⟨hj1, hs4⟩)))
              clear hj1 hs4
              go_wp2_with fail
              go_meet
              exact ⟨by rw [i6.out], by first | rfl | trivial⟩
            · have i4 : decide ((s2 : Int) < 3000) = false := by rw [decide_eq_false_iff_not]; omega
              have i5 : decide (s2 < 3000) = false := by rw [decide_eq_false_iff_not]; omega
              have i6 := Lib.hid (hV'.out.symm.trans (decide_eq_false (show ¬(j < n1 ∧ s2 < 3000) from fun h => hs4 h.2)))
              clear hj1 hs4
              go_wp2_with fail
              go_meet
              exact ⟨by rw [i6.out], by first | rfl | trivial⟩
          · have i1 : decide ((j : Int) < (n1 : Int)) = false := by rw [decide_eq_false_iff_not]; omega
            have i2 : decide (j < n1) = false := by rw [decide_eq_false_iff_not]; omega
            have i6 := Lib.hid (hV'.out.symm.trans (decide_eq_false (show ¬(j < n1 ∧ s2 < 3000) from fun h => hj1 h.1)))
            clear hj1
            go_wp2_with fail
            go_meet
            exact ⟨by rw [i6.out], by first | rfl | trivial⟩
        case rest =>
        obtain ⟨rfl, rfl⟩ := hcut
        by_cases hc : j < n1 ∧ s2 < 3000
        · obtain rfl : V = true := hV'.out.symm.trans (decide_eq_true hc)
          obtain ⟨hj1, hs4⟩ := hc
          have i3 : (j : Int) < (n1 : Int) := by omega
          obtain ⟨b1, off1, t, rfl, hbl1, ht, kk⟩ := t1q.out.at_ hj1
          have htl := g3'.out t (List.mem_of_getElem? ht)
          have htz : (strOf t).size = t.length := strOf_size' t
          have hnx : Hid (s2 + t.length = s + (1 + n1 + n2) + lens (r.1.take (j + 1))) := Lib.hid (by rw [lens_take ht, hsv.out]; omega)
          obtain ⟨S, hS⟩ : ∃ S, strOf t = S := ⟨_, rfl⟩
          simp only [tv] at kk
          rw [hS] at kk htz
          obtain ⟨tl, htl2⟩ : ∃ tl, t.length = tl := ⟨_, rfl⟩
          rw [htl2] at htl htz hnx
          clear hS ht htl2
          go_wp2_with fail
          go_roundw
          case rel => exact ⟨j + 1, s2 + tl, by omega, by omega, by go_num, by go_num, hnx, by first | rfl | trivial⟩
          case measure => simp [intOf]; omega
        · obtain rfl : V = false := hV'.out.symm.trans (decide_eq_false hc)
          have hex : Hid (s2 < 3000 → s2 = s + (1 + n1 + n2) + lens r.1) := Lib.hid fun h => by
            have h2 := hsv.out
            rw [List.take_of_length_le (by have := hl1'.out; omega)] at h2
            exact h2
          clear hc hsv hj t1q
          obtain ⟨wo2, hwo2⟩ : ∃ wo, wo = wc := ⟨wc, rfl⟩
          subst hwo2
          go_wp2_with fail
          go_loopw [3, 6] (fun o i wq => ∃ (j s3 : Nat), j ≤ n2 ∧ s3 ≤ 562949953421312 ∧ i = .int .i64 j ∧ o = .int .i64 s3 ∧ Hid (s3 < 3000 → s3 = s + (1 + n1 + n2) + lens r.1 + lens (r.2.take j)) ∧ wq = wo2) (fun _ i _ => n2 - (intOf i).toNat)
          case atStart => exact ⟨0, s2, by omega, by omega, rfl, rfl, Lib.hid (by simpa [lens] using hex.out), by first | rfl | trivial⟩
          case round =>
            obtain ⟨m, s3, hm, hs5, rfl, rfl, hsv, rfl⟩ := hrel
            obtain ⟨V, hV⟩ : ∃ V, decide (m < n2 ∧ s3 < 3000) = V := ⟨_, rfl⟩
            have hV' := Lib.hid hV
            clear hV
            go_upto_region 11 with fail
            go_cut [65] (fun v wx => v = .bool V ∧ wx = wr)
            case first =>
              by_cases hj1 : m < n2
              · have i1 : decide ((m : Int) < (n2 : Int)) = true := by rw [decide_eq_true_eq]; omega
                have i2 : decide (m < n2) = true := by rw [decide_eq_true_eq]; omega
                by_cases hs4 : s3 < 3000
                · have i4 : decide ((s3 : Int) < 3000) = true := by rw [decide_eq_true_eq]; omega
                  have i5 : decide (s3 < 3000) = true := by rw [decide_eq_true_eq]; omega
                  have i6 := Lib.hid (hV'.out.symm.trans (decide_eq_true (show m < n2 ∧ s3 < 3000 from ⟨hj1, hs4⟩)))
                  clear hj1 hs4
                  go_wp2_with fail
                  go_meet
                  exact ⟨by rw [i6.out], by first | rfl | trivial⟩
                · have i4 : decide ((s3 : Int) < 3000) = false := by rw [decide_eq_false_iff_not]; omega
                  have i5 : decide (s3 < 3000) = false := by rw [decide_eq_false_iff_not]; omega
                  have i6 := Lib.hid (hV'.out.symm.trans (decide_eq_false (show ¬(m < n2 ∧ s3 < 3000) from fun h => hs4 h.2)))
                  clear hj1 hs4
                  go_wp2_with fail
                  go_meet
                  exact ⟨by rw [i6.out], by first | rfl | trivial⟩
              · have i1 : decide ((m : Int) < (n2 : Int)) = false := by rw [decide_eq_false_iff_not]; omega
                have i2 : decide (m < n2) = false := by rw [decide_eq_false_iff_not]; omega
                have i6 := Lib.hid (hV'.out.symm.trans (decide_eq_false (show ¬(m < n2 ∧ s3 < 3000) from fun h => hj1 h.1)))
                clear hj1
                go_wp2_with fail
                go_meet
                exact ⟨by rw [i6.out], by first | rfl | trivial⟩
            case rest =>
            obtain ⟨rfl, rfl⟩ := hcut
            by_cases hc : m < n2 ∧ s3 < 3000
            · obtain rfl : V = true := hV'.out.symm.trans (decide_eq_true hc)
              obtain ⟨hj1, hs4⟩ := hc
              have i3 : (m : Int) < (n2 : Int) := by omega
              obtain ⟨b1, off1, t, rfl, hbl1, ht, kk⟩ := t2q.out.at_ hj1
              have htl := g4'.out t (List.mem_of_getElem? ht)
              have htz : (strOf t).size = t.length := strOf_size' t
              have hnx : Hid (s3 + t.length < 3000 → s3 + t.length = s + (1 + n1 + n2) + lens r.1 + lens (r.2.take (m + 1))) := Lib.hid (fun _ => by rw [lens_take ht, hsv.out hs4]; omega)
              obtain ⟨S, hS⟩ : ∃ S, strOf t = S := ⟨_, rfl⟩
              simp only [tv] at kk
              rw [hS] at kk htz
              obtain ⟨tl, htl2⟩ : ∃ tl, t.length = tl := ⟨_, rfl⟩
              rw [htl2] at htl htz hnx
              clear hS ht htl2
              go_wp2_with fail
              go_roundw
              case rel => exact ⟨m + 1, s3 + tl, by omega, by omega, by go_num, by go_num, hnx, by first | rfl | trivial⟩
              case measure => simp [intOf]; omega
            · obtain rfl : V = false := hV'.out.symm.trans (decide_eq_false hc)
              by_cases hs6 : s3 < 3000
              · have i7 : decide ((s3 : Int) ≥ 3000) = false := by rw [decide_eq_false_iff_not]; omega
                have i8 : decide (3000 ≤ s3) = false := by rw [decide_eq_false_iff_not]; omega
                have hfin : Hid (s3 = wts (l.take (k + 1))) := Lib.hid (by
                  have h2 := hsv.out hs6
                  rw [List.take_of_length_le (by have := hl2'.out; omega)] at h2
                  rw [hwt.out, h2]
                  omega)
                clear hc
                go_wp2_with fail
                go_roundw
                case rel => exact ⟨k + 1, s3, by omega, by omega, by go_num, rfl, hfin, hbq⟩
                case measure => simp [intOf]; omega
              · have i7 : decide ((s3 : Int) ≥ 3000) = true := by rw [decide_eq_true_eq]; omega
                have i8 : decide (3000 ≤ s3) = true := by rw [decide_eq_true_eq]; omega
                clear hc
                go_wp2_with fail
                go_ret
                exact ⟨false, rfl, by simp, hbq.out⟩
    · have i1 : decide ((k : Int) < (n : Int)) = false := by rw [decide_eq_false_iff_not]; omega
      have i2 : decide (k < n) = false := by rw [decide_eq_false_iff_not]; omega
      have hf : Hid (wts l < 3000) := Lib.hid (by
        have := hs.out
        rw [List.take_of_length_le (by have := hl'.out; omega)] at this
        omega)
      go_wp2_with fail
      go_ret
      exact ⟨true, rfl, fun _ => hf.out, hb.out⟩
end Go.Proofs.YtjofkodncplhaaaGreatDoor.Ky
