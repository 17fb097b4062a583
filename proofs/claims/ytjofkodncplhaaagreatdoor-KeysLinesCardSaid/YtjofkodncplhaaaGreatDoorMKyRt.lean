/- The document's Text. -/
import Derived.Test.YtjofkodncplhaaaGreatDoorMKyRa
import Derived.Test.YtjofkodncplhaaaGreatDoorMKyRb
import Derived.Test.YtjofkodncplhaaaGreatDoorMPlan2
namespace Go.Proofs.YtjofkodncplhaaaGreatDoor.Ky
open Go.RowKit Go.Shelf UtfW

set_option maxHeartbeats 4000000 in
set_option maxRecDepth 100000 in
/-- The document's Text. -/
theorem refText_any (A : Option Addr) (n c : Nat) (l : List Rl) (w : World) (h : Rs w A n c l) (hW : wts l ≤ 100000) :
    Calls Tryz.prog 14 #[.slice A n c] w fun e w' => e = .returned (.string (strOf (textR l))) ∧ Below w.heap.size w w' := by
  have hl' := Lib.hid h.len
  have hm := h.max
  have hle := h.le
  have h' := Lib.hid h
  have hW' := Lib.hid hW
  clear h hW
  obtain ⟨X, hX⟩ : ∃ X, textR l = X := ⟨_, rfl⟩
  rw [hX]
  have hX' := Lib.hid hX
  clear hX
  go_enter Tryz.func14, Tryz.ntmps14
  go_wp2_with fail
  go_loopw [3, 4] (fun o i wr => ∃ (k : Nat) (S : ByteArray), k ≤ n ∧ i = .int .i64 k ∧ o = .string S ∧ Hid (S = strOf (textR (l.take k))) ∧ Hid (Below w.heap.size w wr)) (fun _ i _ => n - (intOf i).toNat)
  case atStart => exact ⟨0, ⟨#[]⟩, by omega, rfl, rfl, Lib.hid rfl, Lib.hid (Below.refl _ _)⟩
  case round =>
    obtain ⟨k, S, hk, rfl, rfl, hS, hb⟩ := hrel
    by_cases hlt : k < n
    · have i1 : decide ((k : Int) < (n : Int)) = true := by rw [decide_eq_true_eq]; omega
      have i2 : decide (k < n) = true := by rw [decide_eq_true_eq]; omega
      have i3 : (k : Int) < (n : Int) := by omega
      obtain ⟨b, off, r, A1, n1, c1, A2, n2, c2, rfl, hbl, hr, t1, t2, k0, k1⟩ := Rs.at_ (h'.out.below hb.out) hlt
      have hwr := wts_le (List.mem_of_getElem? hr)
      have hwl := wts_take hr
      have hw1 : wts (l.take (k + 1)) ≤ wts l := by
        have := wts_append (l.take (k + 1)) (l.drop (k + 1))
        rw [List.take_append_drop] at this
        omega
      have htl := textR_len (l.take k)
      have hxl := textL_len r
      have hl1 := t1.len
      have hl2 := t2.len
      have hW2 := hW'.out
      have hwt : 1 + n1 + n2 + lens r.1 + lens r.2 ≤ 100000 := by
        have h9 : wt r ≤ 100000 := by omega
        unfold wt at h9
        omega
      have hnext : Hid (textR (l.take (k + 1)) = textR (l.take k) ++ (textL r ++ [10])) := Lib.hid (by rw [take_one hr, text_snoc])
      have hSz : S.size ≤ 500000 := by rw [hS.out, strOf_size']; omega
      have hj1 : Hid (∀ x, Below wr.heap.size wr x → Calls Tryz.prog 27 #[.slice A1 n1 c1, .string ⟨#[47]⟩] x fun e w' => e = .returned (.string (strOf (join [47] r.1))) ∧ w' = x) := Lib.hid fun x hx =>
        refJoin_any A1 n1 c1 r.1 [47] x (t1.below hx) (by omega) (by simp) (by omega)
      have hj2 : Hid (∀ x, Below wr.heap.size wr x → Calls Tryz.prog 27 #[.slice A2 n2 c2, .string ⟨#[44, 32]⟩] x fun e w' => e = .returned (.string (strOf (join [44, 32] r.2))) ∧ w' = x) := Lib.hid fun x hx =>
        refJoin_any A2 n2 c2 r.2 [44, 32] x (t2.below hx) (by omega) (by simp) (by omega)
      have hq1 := join_len [47] r.1
      have hq2 := join_len [44, 32] r.2
      obtain ⟨J1, hJ1⟩ : ∃ J1, strOf (join [47] r.1) = J1 := ⟨_, rfl⟩
      obtain ⟨J2, hJ2⟩ : ∃ J2, strOf (join [44, 32] r.2) = J2 := ⟨_, rfl⟩
      have hJ1l : J1.size ≤ 1000000 := by rw [← hJ1, strOf_size']; simp at hq1; omega
      have hJ2l : J2.size ≤ 1000000 := by rw [← hJ2, strOf_size']; simp at hq2; omega
      rw [hJ1] at hj1
      rw [hJ2] at hj2
      have hJ1' := Lib.hid hJ1
      have hJ2' := Lib.hid hJ2
      obtain ⟨S1, hS1⟩ : ∃ S1, S ++ ⟨#[47]⟩ = S1 := ⟨_, rfl⟩
      have e1 := fun w => run_string_add_sum (P := Tryz.prog) w S ⟨#[47]⟩ (by rw [show (ByteArray.mk #[47]).size = 1 from rfl]; omega)
      rw [hS1] at e1
      have z1 : S1.size ≤ 500001 := by rw [← hS1, ByteArray.size_append, show (ByteArray.mk #[47]).size = 1 from rfl]; omega
      obtain ⟨S2, hS2⟩ : ∃ S2, S1 ++ J1 = S2 := ⟨_, rfl⟩
      have e2 := fun w => run_string_add_sum (P := Tryz.prog) w S1 J1 (by omega)
      rw [hS2] at e2
      have z2 : S2.size ≤ 1500001 := by rw [← hS2, ByteArray.size_append]; omega
      obtain ⟨S3, hS3⟩ : ∃ S3, S2 ++ ⟨#[32, 123]⟩ = S3 := ⟨_, rfl⟩
      have e3 := fun w => run_string_add_sum (P := Tryz.prog) w S2 ⟨#[32, 123]⟩ (by rw [show (ByteArray.mk #[32, 123]).size = 2 from rfl]; omega)
      rw [hS3] at e3
      have z3 : S3.size ≤ 1500003 := by rw [← hS3, ByteArray.size_append, show (ByteArray.mk #[32, 123]).size = 2 from rfl]; omega
      obtain ⟨S4, hS4⟩ : ∃ S4, S3 ++ J2 = S4 := ⟨_, rfl⟩
      have e4 := fun w => run_string_add_sum (P := Tryz.prog) w S3 J2 (by omega)
      rw [hS4] at e4
      have z4 : S4.size ≤ 2500003 := by rw [← hS4, ByteArray.size_append]; omega
      obtain ⟨S5, hS5⟩ : ∃ S5, S4 ++ ⟨#[125, 10]⟩ = S5 := ⟨_, rfl⟩
      have e5 := fun w => run_string_add_sum (P := Tryz.prog) w S4 ⟨#[125, 10]⟩ (by rw [show (ByteArray.mk #[125, 10]).size = 2 from rfl]; omega)
      rw [hS5] at e5
      have hfin : Hid (S5 = strOf (textR (l.take (k + 1)))) := Lib.hid (by
        rw [← hS5, ← hS4, ← hS3, ← hS2, ← hS1, hnext.out, hS.out, ← hJ1, ← hJ2, show (ByteArray.mk #[47]) = strOf [47] from rfl, show (ByteArray.mk #[32, 123]) = strOf [32, 123] from rfl, show (ByteArray.mk #[125, 10]) = strOf [125, 10] from rfl,
          strOf_add, strOf_add, strOf_add, strOf_add, strOf_add]
        unfold textL
        simp)
      have hq : Hid (∀ x, Below wr.heap.size wr x → x.cell? ⟨b, off + k * 2, none⟩ = some (.slice A1 n1 c1) ∧ x.cell? ⟨b, off + k * 2 + 1, none⟩ = some (.slice A2 n2 c2)) := Lib.hid fun x hx => ⟨(hx.cell hbl).trans k0, (hx.cell hbl).trans k1⟩
      have hdr : Hid (Below wr.heap.size wr wr.drew) := Lib.hid (Joins.below_draws wr.heap.size wr 1)
      clear hr hwr hwl hw1 htl hxl hl1 hl2 hW2 hwt hq1 hq2 hJ1 hJ2 hS1 hS2 hS3 hS4 hS5 t1 t2 k0 k1
      go_wp2_with fail
      refine Pl.wp_region_plan 16 (.take 0 (.take 1 (.take 2 (.take 3 (.take 4 (.take 5 (.take 6 (.take 10 (.take 11 (.take 12 (.take 13 (.take 14 (.run 7 (.take 8 (.take 9 (.run 15 .done)))))))))))))))) (fun x => x.cell? ⟨b, off + k * 2, none⟩ = some (.slice A1 n1 c1) ∧ x.cell? ⟨b, off + k * 2 + 1, none⟩ = some (.slice A2 n2 c2)) (by kernel_rfl) (by kernel_rfl) (by exact hq.out _ hdr.out) ?_
      simp only [Pl.fill, List.getElem?_cons_zero, List.getElem?_cons_succ, List.drop_succ_cons, List.drop_zero]
      iterate 12
        refine Pl.take_go ?_ (by rfl) (fun _ _ _ h => h) ?_ ?_
        rotate_left
        · (intro x hSw; (try dsimp only at hSw); (try obtain ⟨s0, s1⟩ := hSw); go_simp; try with_reducible rfl)
        try simp only [Act.put, List.setIfInBounds_toArray, List.set_cons_zero, List.set_cons_succ]
      refine Pl.run_go (fun K hK => ?_)
      go_simp
      refine (hj1.out _ hdr.out).mono ?_
      rintro e w9 ⟨rfl, rfl⟩
      dsimp only
      refine hK.out _ _ (Pl.more_go _ (fun _ h => h) (by exact hq.out _ hdr.out) ?_)
      clear hK K
      try simp only [Act.put, List.setIfInBounds_toArray, List.set_cons_zero, List.set_cons_succ]
      iterate 2
        refine Pl.take_go ?_ (by rfl) (fun _ _ _ h => h) ?_ ?_
        rotate_left
        · (intro x hSw; (try dsimp only at hSw); (try obtain ⟨s0, s1⟩ := hSw); go_simp; try with_reducible rfl)
        try simp only [Act.put, List.setIfInBounds_toArray, List.set_cons_zero, List.set_cons_succ]
      refine Pl.run_go (fun K hK => ?_)
      go_simp
      refine (hj2.out _ hdr.out).mono ?_
      rintro e w9 ⟨rfl, rfl⟩
      dsimp only
      refine hK.out _ _ (Pl.more_go _ (fun _ h => h) (by exact hq.out _ hdr.out) ?_)
      clear hK K
      try simp only [Act.put, List.setIfInBounds_toArray, List.set_cons_zero, List.set_cons_succ]
      refine Pl.done_go ?_
      have hbq := Lib.hid (hb.out.trans (hdr.out.mono hb.out.size))
      go_wp2_with fail
      go_roundw
      case rel => exact ⟨k + 1, S5, by omega, by go_num, rfl, hfin, hbq⟩
      case measure => simp [intOf]; omega
    · have i1 : decide ((k : Int) < (n : Int)) = false := by rw [decide_eq_false_iff_not]; omega
      have i2 : decide (k < n) = false := by rw [decide_eq_false_iff_not]; omega
      have hf : Hid (S = strOf X) := Lib.hid (by
        rw [hS.out, ← hX'.out, List.take_of_length_le (by have := hl'.out; omega)])
      go_wp2_with fail
      go_ret
      exact ⟨by rw [hf.out]; rfl, hb.out⟩
end Go.Proofs.YtjofkodncplhaaaGreatDoor.Ky
