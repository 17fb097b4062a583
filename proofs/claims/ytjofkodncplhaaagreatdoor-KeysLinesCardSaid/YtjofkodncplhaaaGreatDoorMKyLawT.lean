/- The law KeysTells. -/
import Derived.Test.YtjofkodncplhaaaGreatDoorMKyAwake
import Derived.Test.YtjofkodncplhaaaGreatDoorMKyText
import Derived.Test.YtjofkodncplhaaaGreatDoorMKyRm
import Derived.Test.YtjofkodncplhaaaGreatDoorMKyRc
import Derived.Test.YtjofkodncplhaaaGreatDoorMKyRs
import Derived.Test.YtjofkodncplhaaaGreatDoorMKyRt
import Derived.Test.YtjofkodncplhaaaGreatDoorMKyFin
namespace Go.Proofs.YtjofkodncplhaaaGreatDoor.Ky
open Go.RowKit UtfW Er

theorem wrap_nat (n : Nat) (h : n < 9223372036854775808) : IntKind.i64.wrap (n : Int) = (n : Int) := by
  have e : (n : Int) % 2 ^ 64 = n := Int.emod_eq_of_lt (by omega) (by omega)
  simp only [IntKind.wrap, IntKind.bits, IntKind.signed, e]
  rw [if_neg]
  simp
  omega
theorem idxr_some {l : List Rl} {p : List Tx} (h : hasB l p = true) : ∃ (k : Nat) (r : Rl), idxR l p = (k : Nat) ∧ l[k]? = some r ∧ findR l p = some r := by
  unfold idxR findR
  cases hi : l.findIdx? (fun r => decide (r.1 = p)) with
  | none =>
    rw [List.findIdx?_eq_none_iff] at hi
    obtain ⟨r, hr, he⟩ := has_iff.1 h
    have := hi r hr
    rw [decide_eq_false_iff_not] at this
    exact absurd he this
  | some k =>
    obtain ⟨hk, hp, hlt⟩ := List.findIdx?_eq_some_iff_getElem.1 hi
    refine ⟨k, l[k], rfl, List.getElem?_eq_getElem hk, ?_⟩
    rw [List.find?_eq_some_iff_getElem]
    exact ⟨hp, k, hk, rfl, fun j hj => by have := hlt j hj; simpa using this⟩
theorem rs_lit (w : World) (p : Nat) (A1 : Option Addr) (n1 c1 : Nat) (A2 : Option Addr) (n2 c2 : Nat) (r : Rl) (h : Kb w p A1 n1 c1 A2 n2 c2) (h1 : Ts w A1 n1 c1 r.1) (h2 : Ts w A2 n2 c2 r.2) :
    Rs w (some ⟨p, 0, none⟩) 1 1 [r] := by
  refine ⟨rfl, by omega, by omega, fun h => by simp at h, fun _ => ⟨p, 0, rfl, h.lt, fun i x hx => ?_⟩⟩
  match i, hx with
  | 0, hx =>
    simp at hx
    subst hx
    refine ⟨[.slice A1 n1 c1, .slice A2 n2 c2], rfl, ⟨A1, n1, c1, A2, n2, c2, rfl, h1, h2⟩, fun j v hv => ?_⟩
    obtain ⟨g1, g2⟩ := h.cells
    match j, hv with
    | 0, hv => simp at hv; rw [← hv]; exact g1
    | 1, hv => simp at hv; rw [← hv]; exact g2
    | j + 2, hv => simp at hv
  | i + 1, hx => simp at hx

set_option maxHeartbeats 2000000 in
set_option maxRecDepth 100000 in
theorem tells_any (A : Option Addr) (n c : Nat) (l : List Rl) (Ap : Option Addr) (np cp : Nat) (path : List Tx) (W : World) (h : Rs W A n c l) (hB : Big l) (hp : Ts W Ap np cp path) (hU : Ut W) (hE : En W.heap.size W) :
    Calls Tryz.prog 6 #[.slice A n c, .slice Ap np cp] W fun e w' => e = .returned (.bool true) ∧ Below W.heap.size W w' := by
  have haw := awake_any W hU hE
  have h' := Lib.hid h
  have hp' := Lib.hid hp
  have hB' := Lib.hid hB
  have hl := Lib.hid h.len
  have hm := h.max
  have hle := h.le
  have hmp := Rd.max hp
  have hlep := Rd.le hp
  clear h hB hp
  go_enter Tryz.func6, Tryz.ntmps6
  go_wp2_with fail
  refine haw.mono ?_
  rintro e w1 ⟨rfl, hb1⟩
  have hx1 := Lib.hid hb1
  clear hb1 haw
  go_wp2_with fail
  refine (refSmall_any A n c l w1 (h'.out.below hx1.out) hB'.out).mono ?_
  rintro e w2 ⟨V, rfl, hV, hb2⟩
  have hx2 := Lib.hid (hx1.out.trans (hb2.mono hx1.out.size))
  have hV' := Lib.hid hV
  clear hb2 hV
  cases V with
  | false =>
    go_wp2_with fail
    go_ret
    exact ⟨rfl, hx2.out⟩
  | true =>
    by_cases hbig : 100 < np
    · have j1 : decide ((np : Int) > 100) = true := by rw [decide_eq_true_eq]; omega
      have j2 : decide (100 < np) = true := by rw [decide_eq_true_eq]; omega
      clear hbig
      go_wp2_with fail
      go_ret
      exact ⟨rfl, hx2.out⟩
    · have j1 : decide ((np : Int) > 100) = false := by rw [decide_eq_false_iff_not]; omega
      have j2 : decide (100 < np) = false := by rw [decide_eq_false_iff_not]; omega
      have hw' := Lib.hid (hV'.out rfl)
      have hsm := Lib.hid (small_of (show wts l ≤ 3000 by have := hw'.out; omega))
      have hfi := Find_any A n c l Ap np cp path w2 (h'.out.below hx2.out) (hp'.out.below hx2.out) (fun r hr => by
        have := hsm.out r hr
        have h1 := this.1
        have h2 := this.2.1
        exact ⟨by omega, by omega⟩)
      clear hV' hbig
      go_wp2_with fail
      refine hfi.mono ?_
      rintro e w3 ⟨A3, n3, c3, A4, n4, c4, rfl, hb3, hts⟩
      have hx3 := Lib.hid (hx2.out.trans (hb3.mono hx2.out.size))
      have hts' := Lib.hid hts
      have hn4 : Hid (Kb (w3.alloc (.cells #[.slice A3 n3 c3, .slice A4 n4 c4] 27)) w3.heap.size A3 n3 c3 A4 n4 c4) := Lib.hid (kb_new w3 A3 n3 c3 A4 n4 c4)
      have hbA := Lib.hid (below_alloc w3 (.cells #[.slice A3 n3 c3, .slice A4 n4 c4] 27))
      have hxA := Lib.hid (hx3.out.trans (hbA.out.mono hx3.out.size))
      have hrf := refFind_any A n c l Ap np cp path _ (h'.out.below hxA.out) (hp'.out.below hxA.out)
      have hge := idx_ge (l := l) (p := path)
      have hids := Lib.hid (idxr_some (l := l) (p := path))
      obtain ⟨z, hz⟩ : ∃ z, idxR l path = z := ⟨_, rfl⟩
      obtain ⟨H, hH⟩ : ∃ H, hasB l path = H := ⟨_, rfl⟩
      rw [hz] at hrf hge hids
      rw [hH] at hge hids ⊢
      have hrf' := Lib.hid hrf
      clear hz hH hb3 hts hrf hfi
      go_wp2_with fail
      refine hrf'.out.mono ?_
      rintro e w4 ⟨rfl, q4, hw4⟩
      have hb4 := Joins.below_draws (w3.alloc (.cells #[.slice A3 n3 c3, .slice A4 n4 c4] 27)).heap.size (w3.alloc (.cells #[.slice A3 n3 c3, .slice A4 n4 c4] 27)) q4
      rw [← hw4] at hb4
      have hx4 := Lib.hid (hxA.out.trans (hb4.mono hxA.out.size))
      have hn44 := Lib.hid (hn4.out.below hb4)
      have hb34 := Lib.hid (hbA.out.trans (hb4.mono hbA.out.size))
      obtain ⟨p5, hp5⟩ : ∃ p5, w3.heap.size = p5 := ⟨_, rfl⟩
      rw [hp5] at hn44 ⊢
      have hp5' := Lib.hid hp5
      have g0 : decide (z ≥ 0) = H := hge
      have g1 : decide (0 ≤ z) = H := hge
      clear hb4 hw4 hn4 hbA hxA hrf' hp5 hge
      have hdr : Hid (Below w4.heap.size w4 w4.drew) := Lib.hid (Joins.below_draws w4.heap.size w4 1)
      have hq : Hid (∀ x, Below w4.heap.size w4 x → x.cell? ⟨p5, 0, none⟩ = some (.slice A3 n3 c3) ∧ x.cell? ⟨p5, 1, none⟩ = some (.slice A4 n4 c4)) := Lib.hid fun x hbx => (hn44.out.below hbx).cells
      go_upto_region 7 with fail
      go_cut [44] (fun v wx => v = .bool false ∧ Hid (Below w4.heap.size w4 wx))
      case first =>
        cases H with
        | false =>
          go_wp2_with fail
          refine Pl.wp_region_plan 14 (.take 0 (.take 1 (.take 2 (.take 3 (.take 4 (.take 5 (.take 6 (.take 7 (.take 9 (.take 10 (.take 11 (.take 12 (.take 13 (.run 8 .done)))))))))))))) (fun x => x.cell? ⟨p5, 0, none⟩ = some (.slice A3 n3 c3) ∧ x.cell? ⟨p5, 1, none⟩ = some (.slice A4 n4 c4)) (by kernel_rfl) (by kernel_rfl) (by exact hq.out _ hdr.out) ?_
          simp only [Pl.fill, List.getElem?_cons_zero, List.getElem?_cons_succ, List.drop_succ_cons, List.drop_zero]
          iterate 7
            refine Pl.take_go ?_ (by rfl) (fun _ _ _ h => h) ?_ ?_
            rotate_left
            · (intro x hSw; (try dsimp only at hSw); (try obtain ⟨s0, s1⟩ := hSw); go_simp; try with_reducible rfl)
            try simp only [Act.put, List.setIfInBounds_toArray, List.set_cons_zero, List.set_cons_succ]
          iterate 6
            refine Pl.take_skip (by rfl) (fun _ _ _ h => h) ?_
            try simp only [Act.put, List.setIfInBounds_toArray, List.set_cons_zero, List.set_cons_succ]
          refine Pl.run_go (fun K hK => ?_)
          go_simp
          refine hK.out _ _ (Pl.more_go _ (fun _ h => h) (by exact hq.out _ hdr.out) ?_)
          clear hK K
          try simp only [Act.put, List.setIfInBounds_toArray, List.set_cons_zero, List.set_cons_succ]
          refine Pl.done_go ?_
          go_wp2_with fail
          go_meet
          exact ⟨rfl, hdr⟩
        | true =>
          obtain ⟨k, r, rfl, hr, hfr⟩ := hids.out rfl
          have hkn : k < n := by have := (List.getElem?_eq_some_iff.1 hr).1; have := hl.out; omega
          obtain ⟨t3, t4⟩ := hts'.out r hfr
          obtain ⟨b, off, r', A5, n5, c5, A6, n6, c6, hAe, hbl, hr', _, _, _, _⟩ := Rs.at_ (h'.out.below hx4.out) hkn
          have hcut : Rs w4 (some ⟨b, off + k * 2, none⟩) 1 (c - k) [r] := by
            have := Sq.cut (h'.out.below hx4.out) k (k + 1) (by omega) (by omega) (some ⟨b, off + k * 2, none⟩) (fun b' o' e _ => by rw [hAe] at e; injection e with e; injection e with e1 e2; subst e1; subst e2; rfl) (fun h1 h2 => by cases h2)
            rw [show k + 1 - k = 1 by omega, List.drop_eq_getElem_cons (by have := hl.out; omega), List.take_succ_cons, List.take_zero, (List.getElem?_eq_some_iff.1 hr).2] at this
            exact this
          have hlit : Hid (∀ x, Below w4.heap.size w4 x → Rs (x.alloc (.cells #[.slice A3 n3 c3, .slice A4 n4 c4] 27)) (some ⟨x.heap.size, 0, none⟩) 1 1 [r]) := Lib.hid fun x hx =>
            rs_lit _ _ A3 n3 c3 A4 n4 c4 r (kb_new x A3 n3 c3 A4 n4 c4) ((t3.below (hb34.out.trans (hx.mono hb34.out.size))).below (below_alloc x _)) ((t4.below (hb34.out.trans (hx.mono hb34.out.size))).below (below_alloc x _))
          have hcut' := Lib.hid hcut
          subst hAe
          have i2 : k ≤ k + 1 := by omega
          have i3 : k + 1 ≤ c := by omega
          have i4 : k ≤ c := by omega
          have hwr : IntKind.i64.wrap ((k : Int) + 1) = (k : Int) + 1 := by
            have := wrap_nat (k + 1) (by omega)
            push_cast at this
            exact this
          have hwr' := Lib.hid hwr
          clear hwr
          have i5 : k < c := by omega
          clear hr hr' hfr t3 t4 hcut
          go_wp2_with fail
          refine Pl.wp_region_plan 14 (.take 0 (.take 1 (.take 2 (.take 3 (.take 4 (.take 5 (.take 6 (.take 7 (.take 9 (.take 10 (.take 11 (.take 12 (.take 13 (.run 8 .done)))))))))))))) (fun x => x.cell? ⟨p5, 0, none⟩ = some (.slice A3 n3 c3) ∧ x.cell? ⟨p5, 1, none⟩ = some (.slice A4 n4 c4)) (by kernel_rfl) (by kernel_rfl) (by exact hq.out _ hdr.out) ?_
          simp only [Pl.fill, List.getElem?_cons_zero, List.getElem?_cons_succ, List.drop_succ_cons, List.drop_zero]
          iterate 8
            refine Pl.take_go ?_ (by rfl) (fun _ _ _ h => h) ?_ ?_
            rotate_left
            · (intro x hSw; (try dsimp only at hSw); (try obtain ⟨s0, s1⟩ := hSw); go_simp; try with_reducible rfl)
            try simp only [Act.put, List.setIfInBounds_toArray, List.set_cons_zero, List.set_cons_succ]
          iterate 4
            refine Pl.take_go ?_ (by rfl) (fun _ _ _ h => h) ?_ ?_
            rotate_left
            · (intro x hSw; (try dsimp only at hSw); (try obtain ⟨s0, s1⟩ := hSw); go_simp; try with_reducible rfl)
            try simp only [Act.put, List.setIfInBounds_toArray, List.set_cons_zero, List.set_cons_succ]
          refine Pl.take_go (.slice (some ⟨b, off + k * 2, none⟩) 1 (c - k)) (by rfl) (fun _ _ _ h => h) ?_ ?_
          · intro x hSw
            go_simp
            rw [hwr'.out, if_pos ⟨by omega, by omega⟩, if_pos (by omega), if_neg (by omega), show ((k : Int) + 1).toNat - k = 1 by omega]
          try simp only [Act.put, List.setIfInBounds_toArray, List.set_cons_zero, List.set_cons_succ]
          refine Pl.run_go (fun K hK => ?_)
          go_simp
          have hbL := (below_alloc w4 (.cells #[.slice A3 n3 c3, .slice A4 n4 c4] 27)).trans (Joins.below_draws w4.heap.size (w4.alloc (.cells #[.slice A3 n3 c3, .slice A4 n4 c4] 27)) 1)
          have hli := (hlit.out w4 (Below.refl _ _)).below (Joins.below_draws _ (w4.alloc (.cells #[.slice A3 n3 c3, .slice A4 n4 c4] 27)) 1)
          obtain ⟨wL, hwL⟩ : ∃ wL, (w4.alloc (.cells #[.slice A3 n3 c3, .slice A4 n4 c4] 27)).drew = wL := ⟨_, rfl⟩
          have hbL' : Hid (Below w4.heap.size w4 wL) := Lib.hid (by rw [← hwL]; exact hbL)
          have hli' : Hid (Rs wL (some ⟨w4.heap.size, 0, none⟩) 1 1 [r]) := Lib.hid (by rw [← hwL]; exact hli)
          rw [hwL]
          clear hbL hli hwL
          refine hK.out _ _ (Pl.more_go _ (fun _ h => h) (by exact hq.out _ hbL'.out) ?_)
          clear hK K
          try simp only [Act.put, List.setIfInBounds_toArray, List.set_cons_zero, List.set_cons_succ]
          refine Pl.done_go ?_
          have hru := refRules_any (some ⟨w4.heap.size, 0, none⟩) 1 1 [r] (some ⟨b, off + k * 2, none⟩) 1 (c - k) [r] wL hli'.out (hcut'.out.below hbL'.out)
          rw [decide_eq_true (rfl : [r] = [r])] at hru
          go_wp2_with fail
          refine hru.mono ?_
          rintro e w5 ⟨rfl, hb5⟩
          have hx5 := Lib.hid (hbL'.out.trans (hb5.mono hbL'.out.size))
          clear hb5 hru
          go_wp2_with fail
          go_meet
          exact ⟨rfl, hx5⟩
      case rest =>
        obtain ⟨rfl, hbc⟩ := hcut
        have hxc := Lib.hid (hx4.out.trans (hbc.out.mono hx4.out.size))
        have hma := May_any A n c l wc (h'.out.below hxc.out) (hU.below hxc.out) (fun r hr => smr_mono (hsm.out r hr) (by decide))
        have hrma := fun w hw => refMay_any A n c l w (h'.out.below hw) (fun r hr => smr_mono (hsm.out r hr) (by decide))
        obtain ⟨M, hM⟩ : ∃ M, mayB nameR l = M := ⟨_, rfl⟩
        obtain ⟨X, hX⟩ : ∃ X, textR l = X := ⟨_, rfl⟩
        obtain ⟨F, hF⟩ : ∃ F, frontB l path = F := ⟨_, rfl⟩
        rw [hM] at hma
        simp only [hM] at hrma
        have htx := fun w hw => Text_any A n c l w (h'.out.below hw) (by have := hw'.out; omega)
        have hrtx := fun w hw => refText_any A n c l w (h'.out.below hw) (by have := hw'.out; omega)
        have hfr := fun w hw => Front_any A n c l Ap np cp path w (h'.out.below hw) (hp'.out.below hw)
        have hrfr := fun w hw => refFront_any A n c l Ap np cp path w (h'.out.below hw) (hp'.out.below hw)
        simp only [hX] at htx hrtx
        simp only [hF] at hfr hrfr
        have hma' := Lib.hid hma
        have hrma' := Lib.hid hrma
        have htx' := Lib.hid htx
        have hrtx' := Lib.hid hrtx
        have hfr' := Lib.hid hfr
        have hrfr' := Lib.hid hrfr
        clear hM hX hF hma hrma htx hrtx hfr hrfr g0 g1
        go_wp2_with fail
        refine hma'.out.mono ?_
        rintro e w5 ⟨rfl, hb5⟩
        have hx5 := Lib.hid (hxc.out.trans (hb5.mono hxc.out.size))
        clear hb5
        go_wp2_with fail
        refine (hrma'.out w5 hx5.out).mono ?_
        rintro e w6 ⟨rfl, hb6⟩
        have hx6 := Lib.hid (hx5.out.trans (hb6.mono hx5.out.size))
        clear hb6
        go_wp2_with fail
        refine (htx'.out w6 hx6.out).mono ?_
        rintro e w7 ⟨rfl, hb7⟩
        have hx7 := Lib.hid (hx6.out.trans (hb7.mono hx6.out.size))
        clear hb7
        go_wp2_with fail
        refine (hrtx'.out w7 hx7.out).mono ?_
        rintro e w8 ⟨rfl, hb8⟩
        have hx8 := Lib.hid (hx7.out.trans (hb8.mono hx7.out.size))
        clear hb8
        go_wp2_with fail
        refine (hfr'.out w8 hx8.out).mono ?_
        rintro e w9 ⟨rfl, hb9⟩
        have hx9 := Lib.hid (hx8.out.trans (hb9.mono hx8.out.size))
        clear hb9
        go_wp2_with fail
        refine (hrfr'.out w9 hx9.out).mono ?_
        rintro e wA ⟨rfl, qA, rfl⟩
        have hxA := Lib.hid (hx9.out.trans ((Joins.below_draws w9.heap.size w9 qA).mono hx9.out.size))
        go_wp2_with fail
        go_ret
        exact ⟨by first | rfl | simp, hxA.out⟩
end Go.Proofs.YtjofkodncplhaaaGreatDoor.Ky
