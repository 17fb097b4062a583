/- The document's Newest. -/
import Derived.Test.YtfdpnjebhllpkaaGreatDoorMMnRcl
import Derived.Test.YtfdpnjebhllpkaaGreatDoorMMnNewest
import Derived.Test.YtfdpnjebhllpkaaGreatDoorMManDec2
import Derived.BigRegion
namespace Go.Proofs.YtfdpnjebhllpkaaGreatDoor.Mn
open Go.RowKit Dk Ma Sg

theorem cand_eq (x : Name) (b : List UInt8) : cand x b = if (genR x).2 = true ∧ (decM b).1 = true ∧ (decM b).2.1 = (genR x).1 then some (decM b).2 else none := rfl

set_option maxHeartbeats 8000000 in
set_option maxRecDepth 100000 in
theorem refNewest_any (w : World) (B rb N U : Nat) (d : D) (h : Rs B rb d w w) (hG : Bd d N U) (hU : U ≤ 1000000) :
    Calls Tryz.prog 52 #[.pointer (some ⟨rb, 0, none⟩)] w (NwP d.fs w) := by
  have hle := Rs.le h
  have hb1 := below_alloc w (.cells #[.int .i64 0, .int .i64 0, .slice none 0 0] 75)
  have hn1 := mb_new w 0 0 none 0 0
  have hb2 := below_alloc (w.alloc (.cells #[.int .i64 0, .int .i64 0, .slice none 0 0] 75)) (.cells #[.int .i64 0, .int .i64 0, .slice none 0 0] 75)
  have hn2 := mb_new (w.alloc (.cells #[.int .i64 0, .int .i64 0, .slice none 0 0] 75)) 0 0 none 0 0
  have hn1' := hn1.below hb2
  have hx2 := hb1.trans (hb2.mono (by simp))
  rw [World.size_alloc] at hn2
  obtain ⟨T, hT0⟩ : ∃ T, w.heap.size = T := ⟨_, rfl⟩
  obtain ⟨w2, hw2⟩ : ∃ w2, (w.alloc (.cells #[.int .i64 0, .int .i64 0, .slice none 0 0] 75)).alloc (.cells #[.int .i64 0, .int .i64 0, .slice none 0 0] 75) = w2 := ⟨_, rfl⟩
  have hsz2 : w2.heap.size = T + 2 := by rw [← hw2, World.size_alloc, World.size_alloc, hT0]
  rw [hw2, hT0] at hn1' hn2
  rw [hw2] at hx2
  obtain ⟨_, _, lv, tv, hR⟩ := h
  obtain ⟨A9, c9, rfl, hq9⟩ := hR.sq
  have hlt := hR.lt
  rw [hT0] at hx2 hlt
  have klv : Hid (∀ z, Below T w z → z.cell? ⟨rb, 1, none⟩ = some (.slice A9 d.fs.length c9)) := Lib.hid fun z hb => (hb.cell (p := ⟨rb, 1, none⟩) hlt).trans (cell_blk hR.blk rfl)
  have hq9' : Hid (∀ z, Below T w z → Sq (FoEl B) 3 z A9 d.fs.length c9 (d.fs.map toIn)) := Lib.hid fun z hb => Sq.below hq9 (FoEl.below (by rw [hT0]; exact hb)) (by rw [hT0]; exact hb)
  have hle9 := hq9.le
  have hmx9 := hq9.max
  have hmost := hG.inv.most
  have hszs : Hid (∀ p ∈ d.fs, (strOf p.1).size ≤ 1000) := Lib.hid fun p hp => nm_size hG (List.mem_map.2 ⟨p, hp, rfl⟩)
  obtain ⟨nf, hnf⟩ : ∃ nf, d.fs.length = nf := ⟨_, rfl⟩
  rw [hnf] at hq9' klv hle9 hmost
  have hnf' := Lib.hid hnf
  have hx2' := Lib.hid hx2
  have q1 := Lib.hid hn1'
  have q2 := Lib.hid hn2
  have hT0' := Lib.hid hT0
  have hw2' := Lib.hid hw2
  clear hR hq9 hb1 hn1 hb2 hn2 hn1' hx2 hnf hw2 hT0
  go_enter Tryz.func52, Tryz.ntmps52
  go_upto_region 2 with fail
  rw [hw2'.out, hT0'.out]
  go_wp2_with fail
  go_loopw [5] (fun iv wr => ∃ (k : Nat) (r : Option Mf) (Ab : Option Addr) (nb cb : Nat), k ≤ nf ∧ iv = .int .i64 k ∧ Hid (NewL (d.fs.take k) r) ∧ Hid (Mb wr (T + 1) (bestV r).1 (bestV r).2.1 Ab nb cb) ∧ Hid (Is wr Ab nb cb (bestV r).2.2) ∧ Hid (∀ a, Ab = some a → 0 < nb → T + 2 ≤ a.block) ∧ Hid (Mb wr T 0 0 none 0 0) ∧ Hid (Below T w wr)) (fun iv _ => nf - (intOf iv).toNat)
  case atStart => exact ⟨0, none, none, 0, 0, by omega, rfl, Lib.hid NewL.nil, q2, Lib.hid (Rd.none_ _), Lib.hid (fun a h => by cases h), q1, hx2'⟩
  case round =>
    obtain ⟨k, r, Ab, nb, cb, hk, rfl, hnw, hMb, hIb, hfr, hM0, hbw⟩ := hrel
    have kl := klv.out _ hbw.out
    have hszr : T + 2 ≤ wr.heap.size := by have := hMb.out.lt; omega
    by_cases hlt' : k < nf
    · have i1 : decide ((k : Int) < (nf : Int)) = true := by rw [decide_eq_true_eq]; omega
      have i2 : decide (k < nf) = true := by rw [decide_eq_true_eq]; omega
      have i3 : (k : Int) < (nf : Int) := by omega
      obtain ⟨pb, off, f, vs, rfl, hpb, hf, hvs, hel, hcs⟩ := (hq9'.out _ hbw.out).at_ hlt'
      obtain ⟨sk, vd, rfl, hsk, hdv⟩ := hel
      rw [List.getElem?_map, Option.map_eq_some_iff] at hf
      obtain ⟨p, hp, rfl⟩ := hf
      obtain ⟨Ad, cd, rfl, hbs⟩ := OwB.slice hdv
      have c0 : wr.cell? ⟨pb, off + k * 3, none⟩ = some (.string sk) := hcs 0 _ rfl
      have c1 : wr.cell? ⟨pb, off + k * 3 + 1, none⟩ = some (.slice Ad (toIn p).data.length cd) := hcs 1 _ rfl
      have hsk' : p.1 = sk.data.toList := hsk
      have hs1000 : sk.size ≤ 1000 := by
        have := hszs.out p (List.mem_of_getElem? hp)
        rw [hsk'] at this
        rw [strOf_size', Array.length_toList] at this
        exact this
      have hnx := hnw.out.next (p := p)
      rw [← take_snoc hp, cand_eq, hsk'] at hnx
      have hgen := refGen_any sk hs1000 wr
      obtain ⟨R, hR⟩ : ∃ R, genR sk.data.toList = R := ⟨_, rfl⟩
      rw [hR] at hgen hnx
      obtain ⟨n2, b2⟩ := R
      have hdec := refDecodeF_any Ad (toIn p).data.length cd (toIn p).data wr hbs
      obtain ⟨D, hD⟩ : ∃ D, decM p.2.data = D := ⟨_, rfl⟩
      rw [show decM (toIn p).data = D from hD] at hdec
      rw [hD] at hnx
      obtain ⟨okd, g, la, sg⟩ := D
      simp only at hnx
      obtain ⟨nd, hnd⟩ : ∃ nd, (toIn p).data.length = nd := ⟨_, rfl⟩
      rw [hnd] at c1 hdec
      have hdec' := Lib.hid hdec
      have hnx' := Lib.hid hnx
      clear hcs hvs hsk hp hpb hnx hR hdec hD hdv hbs hsk' hnd hnw
      go_wp2_with fail
      refine hgen.mono ?_
      rintro e w3 ⟨rfl, rfl⟩
      unfold genV
      clear hgen
      go_wp2_with fail
      refine hdec'.out.mono ?_
      rintro e w4 ⟨⟨A6, n6, c6, rfl, hI6, hf6⟩, hb4⟩
      have hba5 := below_alloc w4 (.cells #[.int .i64 g, .int .i64 la, .slice A6 n6 c6] 75)
      have hn5 := mb_new w4 g la A6 n6 c6
      obtain ⟨p5, hp5⟩ : ∃ p5, w4.heap.size = p5 := ⟨_, rfl⟩
      obtain ⟨w5, hw5⟩ : ∃ w5, w4.alloc (.cells #[.int .i64 g, .int .i64 la, .slice A6 n6 c6] 75) = w5 := ⟨_, rfl⟩
      rw [hw5] at hba5 hn5
      rw [hp5] at hn5
      have hb35 := hb4.trans (hba5.mono hb4.size)
      have hx5 := Lib.hid (hbw.out.trans (hb35.mono (by omega)))
      have hI5 : Hid (Is w5 A6 n6 c6 sg) := Lib.hid (Rd.below hI6 hba5)
      have hf5 : Hid (∀ a, A6 = some a → 0 < n6 → T + 2 ≤ a.block) := Lib.hid fun a h1 h2 => Nat.le_trans hszr (hf6 a h1 h2)
      have hM5 := Lib.hid (hMb.out.below hb35)
      have hM05 := Lib.hid (hM0.out.below hb35)
      have hIb5 := Lib.hid (hIb.out.below hb35)
      obtain ⟨n0', n1', n2', _⟩ := hn5.mf
      obtain ⟨m0, m1, m2, _⟩ := hM5.out.mf
      have hw5' := Lib.hid hw5
      have hp5' := Lib.hid hp5
      have f0 := hM5.out.frozen 0
      have f1 := hM5.out.frozen 1
      have f2 := hM5.out.frozen 2
      clear hb4 hI6 hf6 hdec' hba5 hb35 hn5 hMb hM0 hIb hw5 hp5 c0 c1 kl
      go_upto_region 7 with fail
      rw [hw5'.out, hp5'.out]
      by_cases hyes : b2 = true ∧ okd = true ∧ g = n2 ∧ (bestV r).1 < g
      · obtain ⟨rfl, rfl, rfl, hlt9⟩ := hyes
        have hnx2 := hnx'.out
        rw [if_pos ⟨rfl, rfl, rfl⟩] at hnx2
        simp only at hnx2
        rw [if_pos hlt9] at hnx2
        have hnx3 := Lib.hid hnx2
        have j1 : decide (g > (bestV r).1) = true := decide_eq_true hlt9
        have j2 : decide ((bestV r).1 < g) = true := decide_eq_true hlt9
        clear hnx2 hlt9
        go_wp2_with fail
        go_roundw
        case rel =>
          have hne : ∀ a, A6 = some a → 0 < n6 → a.block ≠ T + 1 := fun a h1 h2 => by have := hf5.out a h1 h2; omega
          exact ⟨k + 1, some (g, la, sg), A6, n6, c6, by omega, by go_num, hnx3, Lib.hid (mb_set hM5.out g la A6 n6 c6), Lib.hid (rd_set (rd_set (rd_set hI5.out hne _) hne _) hne _), hf5, Lib.hid (mb_other (mb_other (mb_other hM05.out (by omega) _) (by omega) _) (by omega) _), Lib.hid (Ma.below_set (Ma.below_set (Ma.below_set hx5.out (by omega) _) (by omega) _) (by omega) _)⟩
        case measure => simp [intOf]; omega
      · have hnx3 : Hid (NewL (d.fs.take (k + 1)) r) := Lib.hid (by
          have hnx2 := hnx'.out
          by_cases h1 : b2 = true ∧ okd = true ∧ g = n2
          · obtain ⟨rfl, rfl, rfl⟩ := h1
            rw [if_pos ⟨rfl, rfl, rfl⟩] at hnx2
            simp only at hnx2
            rw [if_neg (fun h => hyes ⟨rfl, rfl, rfl, h⟩)] at hnx2
            exact hnx2
          · rw [if_neg h1] at hnx2
            exact hnx2)
        cases b2 with
        | false =>
          clear hyes
          go_wp2_with fail
          go_roundw
          case rel => exact ⟨k + 1, r, Ab, nb, cb, by omega, by go_num, hnx3, hM5, hIb5, hfr, hM05, hx5⟩
          case measure => simp [intOf]; omega
        | true =>
          cases okd with
          | false =>
            clear hyes
            go_wp2_with fail
            go_roundw
            case rel => exact ⟨k + 1, r, Ab, nb, cb, by omega, by go_num, hnx3, hM5, hIb5, hfr, hM05, hx5⟩
            case measure => simp [intOf]; omega
          | true =>
            by_cases hg2 : g = n2
            · subst hg2
              have hlt9 : ¬ (bestV r).1 < g := fun h => hyes ⟨rfl, rfl, rfl, h⟩
              have j1 : decide (g > (bestV r).1) = false := decide_eq_false hlt9
              have j2 : decide ((bestV r).1 < g) = false := decide_eq_false hlt9
              clear hyes hlt9
              go_wp2_with fail
              go_roundw
              case rel => exact ⟨k + 1, r, Ab, nb, cb, by omega, by go_num, hnx3, hM5, hIb5, hfr, hM05, hx5⟩
              case measure => simp [intOf]; omega
            · have hgb : (g == n2) = false := by rw [beq_eq_false_iff_ne]; exact hg2
              clear hyes hg2
              go_wp2_with fail
              go_roundw
              case rel => exact ⟨k + 1, r, Ab, nb, cb, by omega, by go_num, hnx3, hM5, hIb5, hfr, hM05, hx5⟩
              case measure => simp [intOf]; omega
    · have i1 : decide ((k : Int) < (nf : Int)) = false := by rw [decide_eq_false_iff_not]; omega
      have i2 : decide (k < nf) = false := by rw [decide_eq_false_iff_not]; omega
      have hfin : Hid (NewL d.fs r) := Lib.hid (by
        have := hnw.out
        rw [List.take_of_length_le (by have := hnf'.out; omega)] at this
        exact this)
      obtain ⟨m0, m1, m2, _⟩ := hMb.out.mf
      obtain ⟨t0, t1, t2, _⟩ := hM0.out.mf
      have f0 := hM0.out.frozen 0
      have f1 := hM0.out.frozen 1
      have f2 := hM0.out.frozen 2
      have hbg : decide ((bestV r).1 > 0) = r.isSome := by
        rw [Bool.eq_iff_iff, decide_eq_true_eq]
        exact hfin.out.gen.1
      have hbg2 : decide (0 < (bestV r).1) = r.isSome := hbg
      clear hnw
      go_wp2_with fail
      go_region
      have hne : ∀ a, Ab = some a → 0 < nb → a.block ≠ T := fun a h1 h2 => by have := hfr.out a h1 h2; omega
      have hMf := (mb_set hM0.out (bestV r).1 (bestV r).2.1 Ab nb cb).below (bD (Below.refl _ _))
      have hIf : Is _ Ab nb cb (bestV r).2.2 := Rd.below (rd_set (i := 2) (rd_set (i := 1) (rd_set (i := 0) hIb.out hne (.int .i64 (bestV r).1)) hne (.int .i64 (bestV r).2.1)) hne (.slice Ab nb cb)) (bD (Below.refl _ _))
      have hBf := bD (Ma.below_set (i := 2) (Ma.below_set (i := 1) (Ma.below_set (b := T) (i := 0) hbw.out (Nat.le_refl _) (.int .i64 (bestV r).1)) (Nat.le_refl _) (.int .i64 (bestV r).2.1)) (Nat.le_refl _) (.slice Ab nb cb))
      clear m0 m1 m2 t0 t1 t2 f0 f1 f2 hMb hM0 kl
      go_wp2_with fail
      refine bodyPost_ret (res_mb rfl hMf rfl rfl) rfl ?_
      exact ⟨r, Ab, nb, cb, hfin.out, rfl, hIf, by rw [hT0'.out]; exact hBf⟩
end Go.Proofs.YtfdpnjebhllpkaaGreatDoor.Mn
