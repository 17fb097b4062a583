/- The document's May. Printed by gen/ky_rmay.py. -/
import Derived.Test.YtjofkodncplhaaaGreatDoorMKyRr
import Derived.Test.YtjofkodncplhaaaGreatDoorMKyLine
import Derived.Test.YtjofkodncplhaaaGreatDoorMPlan2
namespace Go.Proofs.YtjofkodncplhaaaGreatDoor.Ky
open Go.RowKit Go.Shelf UtfW

set_option maxHeartbeats 2000000 in
set_option maxRecDepth 100000 in
/-- The document's May. -/
theorem refMay_any (A : Option Addr) (n c : Nat) (l : List Rl) (w : World) (h : Rs w A n c l) (hS : ∀ r ∈ l, Smr 900000 r) :
    Calls Tryz.prog 10 #[.slice A n c] w fun e w' => e = .returned (.bool (mayB nameR l)) ∧ Below w.heap.size w w' := by
  have hl := h.len
  have hm := h.max
  have hle := h.le
  have hP : mayB nameR l = (decide (1 ≤ n ∧ n ≤ 64) && mayP nameR [] l) := by
    unfold mayB
    rw [hl]
  obtain ⟨R, hR⟩ : ∃ R, mayB nameR l = R := ⟨_, rfl⟩
  rw [hR] at hP ⊢
  have hP' := Lib.hid hP
  have hl' := Lib.hid hl
  have h' := Lib.hid h
  have hS' := Lib.hid hS
  clear hR hP hl h hS
  go_enter Tryz.func10, Tryz.ntmps10
  go_wp2_with fail
  go_loopw [3] (fun i wr => ∃ k : Nat, k ≤ n ∧ i = .int .i64 k ∧ Hid (mayP nameR [] (l.take k) = true) ∧ Hid (Below w.heap.size w wr)) (fun i _ => n - (intOf i).toNat)
  case atStart => exact ⟨0, by omega, rfl, Lib.hid rfl, Lib.hid (Below.refl _ _)⟩
  case round =>
    obtain ⟨k, hk, rfl, ho, hb⟩ := hrel
    by_cases hlt : k < n
    · have i1 : decide ((k : Int) < (n : Int)) = true := by rw [decide_eq_true_eq]; omega
      have i2 : decide (k < n) = true := by rw [decide_eq_true_eq]; omega
      have i3 : (k : Int) < (n : Int) := by omega
      have hrr := h'.out.below hb.out
      obtain ⟨b, off, r, A1, n1, c1, A2, n2, c2, rfl, hbl, hr, t1, t2, k0, k1⟩ := Rs.at_ hrr hlt
      have hrl := hS'.out r (List.mem_of_getElem? hr)
      have hcut : Rs wr (some ⟨b, off, none⟩) k c (l.take k) := by
        have := Sq.cut hrr 0 k (by omega) (by omega) (some ⟨b, off, none⟩) (fun b' o' e _ => by injection e with e; injection e with e1 e2; subst e1; subst e2; simp) (fun h1 h2 => by cases h2)
        rw [Nat.sub_zero, Nat.sub_zero, List.drop_zero] at this
        exact this
      have hq : Hid (∀ x, Below wr.heap.size wr x → x.cell? ⟨b, off + k * 2, none⟩ = some (.slice A1 n1 c1) ∧ x.cell? ⟨b, off + k * 2 + 1, none⟩ = some (.slice A2 n2 c2)) := Lib.hid fun x hx => ⟨(hx.cell hbl).trans k0, (hx.cell hbl).trans k1⟩
      have hdr : Hid (Below wr.heap.size wr wr.drew) := Lib.hid (Joins.below_draws wr.heap.size wr 1)
      have cR : Hid (∀ x, Below wr.heap.size wr x → Calls Tryz.prog 24 #[.agg #[.slice A1 n1 c1, .slice A2 n2 c2]] x fun e w'' => e = .returned (.bool (ruleB nameR r)) ∧ Below x.heap.size x w'') := Lib.hid fun x hx =>
        refRule_any A1 n1 c1 A2 n2 c2 r _ (t1.below hx) (t2.below hx) hrl
      have hstep : Hid (ruleB nameR r = true → placedB (l.take k) r = true → mayP nameR [] (l.take (k + 1)) = true) := Lib.hid fun g1 g2 => by
        rw [take_one hr, mayP_append, ho.out, List.nil_append]
        simp [mayP, g1, g2]
      have hbad : Hid (ruleB nameR r = false ∨ placedB (l.take k) r = false → R = false) := Lib.hid fun g => by
        have e : l = l.take (k + 1) ++ l.drop (k + 1) := (List.take_append_drop _ _).symm
        rw [hP'.out]
        refine Bool.and_eq_false_iff.2 (.inr ?_)
        rw [e, mayP_append, take_one hr, mayP_append, ho.out, List.nil_append]
        rcases g with g | g <;> simp [mayP, g]
      cases hru : ruleB nameR r with
      | false =>
        rw [hru] at cR
        obtain rfl : R = false := hbad.out (.inl hru)
        clear hrl hcut hrr t1 t2 hr hru hstep hbad k0 k1
        go_wp2_with fail
        refine Pl.wp_region_plan 14 (.take 0 (.take 1 (.take 2 (.take 3 (.run 4 (.take 5 (.take 6 (.take 7 (.take 8 (.take 9 (.take 10 (.take 11 (.take 12 (.take 13 .done)))))))))))))) (fun x => x.cell? ⟨b, off + k * 2, none⟩ = some (.slice A1 n1 c1) ∧ x.cell? ⟨b, off + k * 2 + 1, none⟩ = some (.slice A2 n2 c2)) (by kernel_rfl) (by kernel_rfl) (by exact hq.out _ hdr.out) ?_
        simp only [Pl.fill, List.getElem?_cons_zero, List.getElem?_cons_succ, List.drop_succ_cons, List.drop_zero]
        iterate 4
          refine Pl.take_go ?_ (by rfl) (fun _ _ _ h => h) ?_ ?_
          rotate_left
          · (intro x hSw; (try dsimp only at hSw); (try obtain ⟨s0, s1⟩ := hSw); go_simp; try with_reducible rfl)
          try simp only [Act.put, List.setIfInBounds_toArray, List.set_cons_zero, List.set_cons_succ]
        refine Pl.run_go (fun K hK => ?_)
        go_simp
        refine (cR.out _ hdr.out).mono ?_
        rintro e w9 ⟨rfl, hb9⟩
        have hb9' := Lib.hid (hdr.out.trans (hb9.mono hdr.out.size))
        have hs9 := hb9'.out.size
        clear hb9
        have q9 := Lib.hid (hq.out _ hb9'.out)
        dsimp only
        refine hK.out _ _ (Pl.more_go _ (fun _ h => h) (by exact q9.out) ?_)
        clear hK K
        try simp only [Act.put, List.setIfInBounds_toArray, List.set_cons_zero, List.set_cons_succ]
        iterate 2
          refine Pl.take_go ?_ (by rfl) (fun _ _ _ h => h) ?_ ?_
          rotate_left
          · (intro x hSw; (try dsimp only at hSw); (try obtain ⟨s0, s1⟩ := hSw); go_simp; try with_reducible rfl)
          try simp only [Act.put, List.setIfInBounds_toArray, List.set_cons_zero, List.set_cons_succ]
        iterate 7
          refine Pl.take_skip (by rfl) (fun _ _ _ h => h) ?_
          try simp only [Act.put, List.setIfInBounds_toArray, List.set_cons_zero, List.set_cons_succ]
        refine Pl.done_go ?_
        clear q9
        go_wp2_with fail
        have hbA' := Lib.hid (hb.out.trans (hb9'.out.mono hb.out.size))
        go_ret
        exact ⟨rfl, hbA'.out⟩
      | true =>
        rw [hru] at cR
        have hkc : k ≤ c := by omega
        have hrne : r.1 ≠ [] := by
          intro e
          unfold ruleB at hru
          rw [e] at hru
          simp at hru
        have cP : Hid (∀ x, Below wr.heap.size wr x → Calls Tryz.prog 25 #[.slice (some ⟨b, off, none⟩) k c, .agg #[.slice A1 n1 c1, .slice A2 n2 c2]] x fun e w'' => e = .returned (.bool (placedB (l.take k) r)) ∧ Below x.heap.size x w'') := Lib.hid fun x hx =>
          refPlaced_any (some ⟨b, off, none⟩) k c (l.take k) A1 n1 c1 A2 n2 c2 r _ (hcut.below hx) (t1.below hx) hrne
        cases hpl : placedB (l.take k) r with
        | false =>
          rw [hpl] at cP
          obtain rfl : R = false := hbad.out (.inr hpl)
          clear hrl hcut hrr t1 t2 hr hru hstep hbad hpl hrne k0 k1
          go_wp2_with fail
          refine Pl.wp_region_plan 14 (.take 0 (.take 1 (.take 2 (.take 3 (.run 4 (.take 5 (.take 6 (.take 7 (.take 8 (.take 9 (.take 10 (.take 11 (.take 12 (.take 13 .done)))))))))))))) (fun x => x.cell? ⟨b, off + k * 2, none⟩ = some (.slice A1 n1 c1) ∧ x.cell? ⟨b, off + k * 2 + 1, none⟩ = some (.slice A2 n2 c2)) (by kernel_rfl) (by kernel_rfl) (by exact hq.out _ hdr.out) ?_
          simp only [Pl.fill, List.getElem?_cons_zero, List.getElem?_cons_succ, List.drop_succ_cons, List.drop_zero]
          iterate 4
            refine Pl.take_go ?_ (by rfl) (fun _ _ _ h => h) ?_ ?_
            rotate_left
            · (intro x hSw; (try dsimp only at hSw); (try obtain ⟨s0, s1⟩ := hSw); go_simp; try with_reducible rfl)
            try simp only [Act.put, List.setIfInBounds_toArray, List.set_cons_zero, List.set_cons_succ]
          refine Pl.run_go (fun K hK => ?_)
          go_simp
          refine (cR.out _ hdr.out).mono ?_
          rintro e w9 ⟨rfl, hb9⟩
          have hb9' := Lib.hid (hdr.out.trans (hb9.mono hdr.out.size))
          have hs9 := hb9'.out.size
          clear hb9
          have q9 := Lib.hid (hq.out _ hb9'.out)
          dsimp only
          refine hK.out _ _ (Pl.more_go _ (fun _ h => h) (by exact q9.out) ?_)
          clear hK K
          try simp only [Act.put, List.setIfInBounds_toArray, List.set_cons_zero, List.set_cons_succ]
          iterate 9
            refine Pl.take_go ?_ (by rfl) (fun _ _ _ h => h) ?_ ?_
            rotate_left
            · (intro x hSw; (try dsimp only at hSw); (try obtain ⟨s0, s1⟩ := hSw); go_simp; try with_reducible rfl)
            try simp only [Act.put, List.setIfInBounds_toArray, List.set_cons_zero, List.set_cons_succ]
          refine Pl.done_go ?_
          clear q9
          go_wp2_with fail
          refine (cP.out _ hb9'.out).mono ?_
          rintro e wA ⟨rfl, hbA⟩
          have hbA' := Lib.hid (hb.out.trans ((hb9'.out.trans (hbA.mono hs9)).mono hb.out.size))
          clear hbA
          go_wp2_with fail
          go_ret
          exact ⟨rfl, hbA'.out⟩
        | true =>
          rw [hpl] at cP
          have ho2 := Lib.hid (hstep.out hru hpl)
          clear hrl hcut hrr t1 t2 hr hru hstep hbad hpl hrne k0 k1
          go_wp2_with fail
          refine Pl.wp_region_plan 14 (.take 0 (.take 1 (.take 2 (.take 3 (.run 4 (.take 5 (.take 6 (.take 7 (.take 8 (.take 9 (.take 10 (.take 11 (.take 12 (.take 13 .done)))))))))))))) (fun x => x.cell? ⟨b, off + k * 2, none⟩ = some (.slice A1 n1 c1) ∧ x.cell? ⟨b, off + k * 2 + 1, none⟩ = some (.slice A2 n2 c2)) (by kernel_rfl) (by kernel_rfl) (by exact hq.out _ hdr.out) ?_
          simp only [Pl.fill, List.getElem?_cons_zero, List.getElem?_cons_succ, List.drop_succ_cons, List.drop_zero]
          iterate 4
            refine Pl.take_go ?_ (by rfl) (fun _ _ _ h => h) ?_ ?_
            rotate_left
            · (intro x hSw; (try dsimp only at hSw); (try obtain ⟨s0, s1⟩ := hSw); go_simp; try with_reducible rfl)
            try simp only [Act.put, List.setIfInBounds_toArray, List.set_cons_zero, List.set_cons_succ]
          refine Pl.run_go (fun K hK => ?_)
          go_simp
          refine (cR.out _ hdr.out).mono ?_
          rintro e w9 ⟨rfl, hb9⟩
          have hb9' := Lib.hid (hdr.out.trans (hb9.mono hdr.out.size))
          have hs9 := hb9'.out.size
          clear hb9
          have q9 := Lib.hid (hq.out _ hb9'.out)
          dsimp only
          refine hK.out _ _ (Pl.more_go _ (fun _ h => h) (by exact q9.out) ?_)
          clear hK K
          try simp only [Act.put, List.setIfInBounds_toArray, List.set_cons_zero, List.set_cons_succ]
          iterate 9
            refine Pl.take_go ?_ (by rfl) (fun _ _ _ h => h) ?_ ?_
            rotate_left
            · (intro x hSw; (try dsimp only at hSw); (try obtain ⟨s0, s1⟩ := hSw); go_simp; try with_reducible rfl)
            try simp only [Act.put, List.setIfInBounds_toArray, List.set_cons_zero, List.set_cons_succ]
          refine Pl.done_go ?_
          clear q9
          go_wp2_with fail
          refine (cP.out _ hb9'.out).mono ?_
          rintro e wA ⟨rfl, hbA⟩
          have hbA' := Lib.hid (hb.out.trans ((hb9'.out.trans (hbA.mono hs9)).mono hb.out.size))
          clear hbA
          go_wp2_with fail
          go_roundw
          case rel => exact ⟨k + 1, by omega, by go_num, ho2, hbA'⟩
          case measure => simp [intOf]; omega
    · have i1 : decide ((k : Int) < (n : Int)) = false := by rw [decide_eq_false_iff_not]; omega
      have i2 : decide (k < n) = false := by rw [decide_eq_false_iff_not]; omega
      have hR2 : Hid (R = decide (1 ≤ n ∧ n ≤ 64)) := Lib.hid (by
        have := ho.out
        rw [List.take_of_length_le (by have := hl'.out; omega)] at this
        rw [hP'.out, this, Bool.and_true])
      by_cases hn1 : 1 ≤ n
      · have j1 : decide ((n : Int) ≥ 1) = true := by rw [decide_eq_true_eq]; omega
        have j2 : decide (1 ≤ n) = true := by rw [decide_eq_true_eq]; omega
        by_cases hn2 : n ≤ 64
        · have j3 : decide ((n : Int) ≤ 64) = true := by rw [decide_eq_true_eq]; omega
          have j4 : decide (n ≤ 64) = true := by rw [decide_eq_true_eq]; omega
          have hf := Lib.hid (hR2.out.trans (decide_eq_true (show 1 ≤ n ∧ n ≤ 64 from ⟨hn1, hn2⟩)))
          clear hn1 hn2
          go_wp2_with fail
          go_ret
          exact ⟨by rw [hf.out]; rfl, hb.out⟩
        · have j3 : decide ((n : Int) ≤ 64) = false := by rw [decide_eq_false_iff_not]; omega
          have j4 : decide (n ≤ 64) = false := by rw [decide_eq_false_iff_not]; omega
          have hf := Lib.hid (hR2.out.trans (decide_eq_false (show ¬(1 ≤ n ∧ n ≤ 64) from fun h => hn2 h.2)))
          clear hn1 hn2
          go_wp2_with fail
          go_ret
          exact ⟨by rw [hf.out]; rfl, hb.out⟩
      · have j1 : decide ((n : Int) ≥ 1) = false := by rw [decide_eq_false_iff_not]; omega
        have j2 : decide (1 ≤ n) = false := by rw [decide_eq_false_iff_not]; omega
        have hf := Lib.hid (hR2.out.trans (decide_eq_false (show ¬(1 ≤ n ∧ n ≤ 64) from fun h => hn1 h.1)))
        clear hn1
        go_wp2_with fail
        go_ret
        exact ⟨by rw [hf.out]; rfl, hb.out⟩
end Go.Proofs.YtjofkodncplhaaaGreatDoor.Ky
