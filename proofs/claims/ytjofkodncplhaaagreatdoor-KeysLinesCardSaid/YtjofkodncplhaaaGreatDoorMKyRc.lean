/- The document's Rules. Printed by gen/ky_rules.py. -/
import Derived.Test.YtjofkodncplhaaaGreatDoorMKyRb
import Derived.Test.YtjofkodncplhaaaGreatDoorMPlan2
namespace Go.Proofs.YtjofkodncplhaaaGreatDoor.Ky
open Go.RowKit Go.Shelf UtfW

set_option maxHeartbeats 4000000 in
set_option maxRecDepth 100000 in
/-- The document's Rules. -/
theorem refRules_any (A : Option Addr) (n c : Nat) (xs : List Rl) (A2 : Option Addr) (n2 c2 : Nat) (ys : List Rl) (w : World) (h : Rs w A n c xs) (h2 : Rs w A2 n2 c2 ys) :
    Calls Tryz.prog 17 #[.slice A n c, .slice A2 n2 c2] w fun e w' => e = .returned (.bool (decide (xs = ys))) ∧ Below w.heap.size w w' := by
  have hl := h.len
  have hl2 := h2.len
  have hm := h.max
  have hm2 := h2.max
  have hle := h.le
  have hle2 := h2.le
  by_cases hn : n = n2
  · subst hn
    obtain ⟨R, hR⟩ : ∃ R, decide (xs = ys) = R := ⟨_, rfl⟩
    rw [hR]
    have hR' := Lib.hid hR
    have h' := Lib.hid h
    have h2' := Lib.hid h2
    have hl' := Lib.hid hl
    have hl2' := Lib.hid hl2
    clear hR h h2 hl hl2
    go_enter Tryz.func17, Tryz.ntmps17
    go_wp2_with fail
    go_loopw [5] (fun i wr => ∃ (k : Nat), k ≤ n ∧ i = .int .i64 k ∧ Hid (xs.take k = ys.take k) ∧ Hid (Below w.heap.size w wr)) (fun i _ => n - (intOf i).toNat)
    case atStart => exact ⟨0, by omega, rfl, Lib.hid rfl, Lib.hid (Below.refl _ _)⟩
    case round =>
      obtain ⟨k, hk, rfl, heq, hb0⟩ := hrel
      have hb := hb0.out
      by_cases hlt : k < n
      · have i1 : decide ((k : Int) < (n : Int)) = true := by rw [decide_eq_true_eq]; omega
        have i2 : decide (k < n) = true := by rw [decide_eq_true_eq]; omega
        have i3 : (k : Int) < (n : Int) := by omega
        obtain ⟨b, off, r, A3, n3, c3, A4, n4, c4, rfl, hbl, hr, t3, t4, k0, k1⟩ := Rs.at_ (h'.out.below hb) hlt
        obtain ⟨b', off', r', A5, n5, c5, A6, n6, c6, rfl, hbl', hr', t5, t6, k0', k1'⟩ := Rs.at_ (h2'.out.below hb) hlt
        have hcp : Hid (∀ x, Below wr.heap.size wr x → Calls Tryz.prog 11 #[.slice A3 n3 c3, .slice A5 n5 c5] x fun e w'' => e = .returned (.bool (decide (r.1 = r'.1))) ∧ Below x.heap.size x w'') := Lib.hid fun x hx =>
          (refTexts_any A3 n3 c3 r.1 A5 n5 c5 r'.1 _ (t3.below hx) (t5.below hx)).mono fun e w' h => ⟨h.1, by obtain ⟨q, hq⟩ := h.2; rw [hq]; exact Joins.below_draws _ _ _⟩
        have hck : Hid (∀ x, Below wr.heap.size wr x → Calls Tryz.prog 11 #[.slice A4 n4 c4, .slice A6 n6 c6] x fun e w'' => e = .returned (.bool (decide (r.2 = r'.2))) ∧ Below x.heap.size x w'') := Lib.hid fun x hx =>
          (refTexts_any A4 n4 c4 r.2 A6 n6 c6 r'.2 _ (t4.below hx) (t6.below hx)).mono fun e w' h => ⟨h.1, by obtain ⟨q, hq⟩ := h.2; rw [hq]; exact Joins.below_draws _ _ _⟩
        have hq : Hid (∀ x, Below wr.heap.size wr x → x.cell? ⟨b, off + k * 2, none⟩ = some (.slice A3 n3 c3) ∧ x.cell? ⟨b, off + k * 2 + 1, none⟩ = some (.slice A4 n4 c4) ∧ x.cell? ⟨b', off' + k * 2, none⟩ = some (.slice A5 n5 c5) ∧ x.cell? ⟨b', off' + k * 2 + 1, none⟩ = some (.slice A6 n6 c6)) :=
          Lib.hid fun x hx => ⟨(hx.cell hbl).trans k0, (hx.cell hbl).trans k1, (hx.cell hbl').trans k0', (hx.cell hbl').trans k1'⟩
        have hdr : Hid (Below wr.heap.size wr wr.drew) := Lib.hid (Joins.below_draws wr.heap.size wr 1)
        have hy : Hid (r = r' → xs.take (k + 1) = ys.take (k + 1)) := Lib.hid (fun e => (eq_take hr hr' heq.out).2 e)
        have hf : Hid (r ≠ r' → R = false) := Lib.hid fun e => by
          rw [← hR'.out, decide_eq_false_iff_not]
          exact ne_of_at hr hr' e
        clear hr hr' t3 t4 t5 t6 k0 k1 k0' k1' hb
        cases hd : decide (r.1 = r'.1) with
        | false =>
          rw [hd] at hcp
          have hff := Lib.hid (hf.out fun e => of_decide_eq_false hd (by rw [e]))
          clear hd hy hf
          go_wp2_with fail
          refine Pl.wp_region_plan 23 (.take 0 (.take 1 (.take 2 (.take 3 (.take 4 (.take 5 (.take 6 (.take 7 (.take 8 (.take 9 (.run 10 (.take 11 (.take 12 (.take 13 (.take 14 (.take 15 (.take 16 (.take 17 (.take 18 (.take 19 (.take 20 (.take 21 (.take 22 (.done)))))))))))))))))))))))) (fun x => x.cell? ⟨b, off + k * 2, none⟩ = some (.slice A3 n3 c3) ∧ x.cell? ⟨b, off + k * 2 + 1, none⟩ = some (.slice A4 n4 c4) ∧ x.cell? ⟨b', off' + k * 2, none⟩ = some (.slice A5 n5 c5) ∧ x.cell? ⟨b', off' + k * 2 + 1, none⟩ = some (.slice A6 n6 c6)) (by kernel_rfl) (by kernel_rfl) (by exact hq.out _ hdr.out) ?_
          simp only [Pl.fill, List.getElem?_cons_zero, List.getElem?_cons_succ, List.drop_succ_cons, List.drop_zero]
          iterate 10
            refine Pl.take_go ?_ (by rfl) (fun _ _ _ h => h) ?_ ?_
            rotate_left
            · (intro x hSw; (try dsimp only at hSw); (try obtain ⟨s0, s1, s2, s3⟩ := hSw); go_simp; try with_reducible rfl)
            try simp only [Act.put, List.setIfInBounds_toArray, List.set_cons_zero, List.set_cons_succ]
          refine Pl.run_go (fun K hK => ?_)
          go_simp
          refine (hcp.out _ hdr.out).mono ?_
          rintro e w9 ⟨rfl, hb9⟩
          have hb9' := Lib.hid (hdr.out.trans (hb9.mono hdr.out.size))
          have hs9 := hb9'.out.size
          clear hb9
          have q9 := Lib.hid (hq.out _ hb9'.out)
          dsimp only
          refine hK.out _ _ (Pl.more_go _ (fun _ h => h) (by exact q9.out) ?_)
          clear hK K
          try simp only [Act.put, List.setIfInBounds_toArray, List.set_cons_zero, List.set_cons_succ]
          iterate 2
            refine Pl.take_go ?_ (by rfl) (fun _ _ _ h => h) ?_ ?_
            rotate_left
            · (intro x hSw; (try dsimp only at hSw); (try obtain ⟨s0, s1, s2, s3⟩ := hSw); go_simp; try with_reducible rfl)
            try simp only [Act.put, List.setIfInBounds_toArray, List.set_cons_zero, List.set_cons_succ]
          iterate 10
            refine Pl.take_skip (by rfl) (fun _ _ _ h => h) ?_
            try simp only [Act.put, List.setIfInBounds_toArray, List.set_cons_zero, List.set_cons_succ]
          refine Pl.done_go ?_
          clear q9
          go_wp2_with fail
          have hbA' := Lib.hid (hb0.out.trans (hb9'.out.mono hb0.out.size))
          go_ret
          exact ⟨by rw [hff.out]; rfl, hbA'.out⟩
        | true =>
          rw [hd] at hcp
          cases hd2 : decide (r.2 = r'.2) with
          | false =>
            rw [hd2] at hck
            have hff := Lib.hid (hf.out fun e => of_decide_eq_false hd2 (by rw [e]))
            clear hd hd2 hy hf
            go_wp2_with fail
            refine Pl.wp_region_plan 23 (.take 0 (.take 1 (.take 2 (.take 3 (.take 4 (.take 5 (.take 6 (.take 7 (.take 8 (.take 9 (.run 10 (.take 11 (.take 12 (.take 13 (.take 14 (.take 15 (.take 16 (.take 17 (.take 18 (.take 19 (.take 20 (.take 21 (.take 22 (.done)))))))))))))))))))))))) (fun x => x.cell? ⟨b, off + k * 2, none⟩ = some (.slice A3 n3 c3) ∧ x.cell? ⟨b, off + k * 2 + 1, none⟩ = some (.slice A4 n4 c4) ∧ x.cell? ⟨b', off' + k * 2, none⟩ = some (.slice A5 n5 c5) ∧ x.cell? ⟨b', off' + k * 2 + 1, none⟩ = some (.slice A6 n6 c6)) (by kernel_rfl) (by kernel_rfl) (by exact hq.out _ hdr.out) ?_
            simp only [Pl.fill, List.getElem?_cons_zero, List.getElem?_cons_succ, List.drop_succ_cons, List.drop_zero]
            iterate 10
              refine Pl.take_go ?_ (by rfl) (fun _ _ _ h => h) ?_ ?_
              rotate_left
              · (intro x hSw; (try dsimp only at hSw); (try obtain ⟨s0, s1, s2, s3⟩ := hSw); go_simp; try with_reducible rfl)
              try simp only [Act.put, List.setIfInBounds_toArray, List.set_cons_zero, List.set_cons_succ]
            refine Pl.run_go (fun K hK => ?_)
            go_simp
            refine (hcp.out _ hdr.out).mono ?_
            rintro e w9 ⟨rfl, hb9⟩
            have hb9' := Lib.hid (hdr.out.trans (hb9.mono hdr.out.size))
            have hs9 := hb9'.out.size
            clear hb9
            have q9 := Lib.hid (hq.out _ hb9'.out)
            dsimp only
            refine hK.out _ _ (Pl.more_go _ (fun _ h => h) (by exact q9.out) ?_)
            clear hK K
            try simp only [Act.put, List.setIfInBounds_toArray, List.set_cons_zero, List.set_cons_succ]
            iterate 12
              refine Pl.take_go ?_ (by rfl) (fun _ _ _ h => h) ?_ ?_
              rotate_left
              · (intro x hSw; (try dsimp only at hSw); (try obtain ⟨s0, s1, s2, s3⟩ := hSw); go_simp; try with_reducible rfl)
              try simp only [Act.put, List.setIfInBounds_toArray, List.set_cons_zero, List.set_cons_succ]
            refine Pl.done_go ?_
            clear q9
            go_wp2_with fail
            refine (hck.out _ hb9'.out).mono ?_
            rintro e wA ⟨rfl, hbA⟩
            have hbA' := Lib.hid (hb0.out.trans ((hb9'.out.trans (hbA.mono hs9)).mono hb0.out.size))
            clear hbA
            go_wp2_with fail
            go_ret
            exact ⟨by rw [hff.out]; rfl, hbA'.out⟩
          | true =>
            rw [hd2] at hck
            have hyy := Lib.hid (hy.out (Prod.ext (of_decide_eq_true hd) (of_decide_eq_true hd2)))
            clear hd hd2 hy hf
            go_wp2_with fail
            refine Pl.wp_region_plan 23 (.take 0 (.take 1 (.take 2 (.take 3 (.take 4 (.take 5 (.take 6 (.take 7 (.take 8 (.take 9 (.run 10 (.take 11 (.take 12 (.take 13 (.take 14 (.take 15 (.take 16 (.take 17 (.take 18 (.take 19 (.take 20 (.take 21 (.take 22 (.done)))))))))))))))))))))))) (fun x => x.cell? ⟨b, off + k * 2, none⟩ = some (.slice A3 n3 c3) ∧ x.cell? ⟨b, off + k * 2 + 1, none⟩ = some (.slice A4 n4 c4) ∧ x.cell? ⟨b', off' + k * 2, none⟩ = some (.slice A5 n5 c5) ∧ x.cell? ⟨b', off' + k * 2 + 1, none⟩ = some (.slice A6 n6 c6)) (by kernel_rfl) (by kernel_rfl) (by exact hq.out _ hdr.out) ?_
            simp only [Pl.fill, List.getElem?_cons_zero, List.getElem?_cons_succ, List.drop_succ_cons, List.drop_zero]
            iterate 10
              refine Pl.take_go ?_ (by rfl) (fun _ _ _ h => h) ?_ ?_
              rotate_left
              · (intro x hSw; (try dsimp only at hSw); (try obtain ⟨s0, s1, s2, s3⟩ := hSw); go_simp; try with_reducible rfl)
              try simp only [Act.put, List.setIfInBounds_toArray, List.set_cons_zero, List.set_cons_succ]
            refine Pl.run_go (fun K hK => ?_)
            go_simp
            refine (hcp.out _ hdr.out).mono ?_
            rintro e w9 ⟨rfl, hb9⟩
            have hb9' := Lib.hid (hdr.out.trans (hb9.mono hdr.out.size))
            have hs9 := hb9'.out.size
            clear hb9
            have q9 := Lib.hid (hq.out _ hb9'.out)
            dsimp only
            refine hK.out _ _ (Pl.more_go _ (fun _ h => h) (by exact q9.out) ?_)
            clear hK K
            try simp only [Act.put, List.setIfInBounds_toArray, List.set_cons_zero, List.set_cons_succ]
            iterate 12
              refine Pl.take_go ?_ (by rfl) (fun _ _ _ h => h) ?_ ?_
              rotate_left
              · (intro x hSw; (try dsimp only at hSw); (try obtain ⟨s0, s1, s2, s3⟩ := hSw); go_simp; try with_reducible rfl)
              try simp only [Act.put, List.setIfInBounds_toArray, List.set_cons_zero, List.set_cons_succ]
            refine Pl.done_go ?_
            clear q9
            go_wp2_with fail
            refine (hck.out _ hb9'.out).mono ?_
            rintro e wA ⟨rfl, hbA⟩
            have hbA' := Lib.hid (hb0.out.trans ((hb9'.out.trans (hbA.mono hs9)).mono hb0.out.size))
            clear hbA
            go_wp2_with fail
            go_roundw
            case rel => exact ⟨k + 1, by omega, by go_num, hyy, hbA'⟩
            case measure => simp [intOf]; omega
      · have i1 : decide ((k : Int) < (n : Int)) = false := by rw [decide_eq_false_iff_not]; omega
        have i2 : decide (k < n) = false := by rw [decide_eq_false_iff_not]; omega
        have hf : Hid (R = true) := Lib.hid (by
          rw [← hR'.out, decide_eq_true_eq]
          have := heq.out
          rw [List.take_of_length_le (by have := hl'.out; omega), List.take_of_length_le (by have := hl2'.out; omega)] at this
          exact this)
        go_wp2_with fail
        go_ret
        exact ⟨by rw [hf.out]; rfl, hb0.out⟩
  · have hne : decide (xs = ys) = false := by
      rw [decide_eq_false_iff_not]
      rintro rfl
      omega
    rw [hne]
    have i1 : ((n : Int) == (n2 : Int)) = false := by rw [beq_eq_false_iff_ne]; omega
    clear hl hl2 hne
    go_enter Tryz.func17, Tryz.ntmps17
    go_wp2_with fail
    go_ret
    exact ⟨rfl, Below.refl _ _⟩
end Go.Proofs.YtjofkodncplhaaaGreatDoor.Ky
