/- upto of the scanner. Printed by xl_upto.py. -/
import Derived.Test.YtcecmbbhjaeodaaGreatDoorMXlNumber
namespace Go.Proofs.YtcecmbbhjaeodaaGreatDoor.Xl
open Go.RowKit UtfW

section
variable (w : World) (b : Nat) (S : Tx) (k : Nat) (A : Option Addr) (c : Nat) (vo : Value)
set_option maxRecDepth 100000 in
theorem upto_any (h : Xc w b S k A c vo) (hk : k ≤ S.length) (hS : S.length ≤ 65536) (p : Tx) (hp0 : 0 < p.length) (hp : p.length ≤ 65536) :
    Calls Tryz.prog 62 #[.pointer (some ⟨b, 0, none⟩), .string (strOf p)] w fun e w' => Gives w b S k A c vo (fun v => .string (strOf v)) (upto p (S.drop k)) e w' := by
  have hsz : (strOf p).size = p.length := strOf_size' p
  have hlc := Rd.le h.bs
  have hcm := Rd.max h.bs
  have h' := Lib.hid h
  clear h
  have hq : Hid (∀ x, Below w.heap.size w x → x.cell? ⟨b, 0, none⟩ = some (.slice A S.length c) ∧ x.cell? ⟨b, 1, none⟩ = some (.int .i64 (k : Nat))) := Lib.hid fun x hx => ⟨(h'.out.below hx).c0, (h'.out.below hx).c1⟩
  have hdr : Hid (Below w.heap.size w w.drew) := Lib.hid (Joins.below_draws w.heap.size w 1)
  obtain ⟨bd, cb, w1, hcv, hbs, hb1⟩ := conv_bytes w.drew p (by omega)
  have hb1' := Lib.hid (hdr.out.trans (hb1.mono hdr.out.size))
  have hc : Hid (Calls Tryz.prog 83 #[.slice (offA A c k) (S.length - k) (c - k), .slice (some ⟨bd, 0, none⟩) p.length cb] w1 fun e w' => e = .returned (.int .i64 (idxV (find p (S.drop k)))) ∧ ∃ q, w' = w1.drewN q) := Lib.hid (by
    have hx := h'.out.below hb1'.out
    have hf := Bs.from hx.bs hk (Nat.le_refl _)
    rw [List.take_of_length_le (by rw [List.length_drop]; omega)] at hf
    exact indexB_any w1 hx.us.ut hf hbs (by omega) hp0 (by omega))
  clear hbs hb1
  unfold offA at hc
  obtain ⟨A1, hA1⟩ : ∃ A1, (if c = k then A else Option.map (fun x => x.add k) A) = A1 := ⟨_, rfl⟩
  rw [hA1] at hc
  cases hf : find p (S.drop k) with
  | none =>
    have hf' := Lib.hid hf
    rw [hf] at hc
    unfold idxV at hc
    clear hf
    go_enter Tryz.func62, Tryz.ntmps62
    go_wp2_with fail
    refine Pl.wp_region_plan 11 (.take 0 (.take 1 (.take 2 (.take 3 (.take 4 (.take 5 (.take 6 (.take 7 (.take 8 (.take 9 (.run 10 .done))))))))))) (fun x => x.cell? ⟨b, 0, none⟩ = some (.slice A S.length c) ∧ x.cell? ⟨b, 1, none⟩ = some (.int .i64 (k : Nat))) (by kernel_rfl) (by kernel_rfl) (by exact hq.out _ hdr.out) ?_
    simp only [Pl.fill, List.getElem?_cons_zero, List.getElem?_cons_succ, List.drop_succ_cons, List.drop_zero]
    iterate 10
      refine Pl.take_go ?_ (by rfl) (fun _ _ _ h => h) ?_ ?_
      rotate_left
      · (intro x hSw; (try dsimp only at hSw); (try obtain ⟨s0, s1⟩ := hSw); go_simp; try with_reducible rfl)
      try simp only [Act.put, List.setIfInBounds_toArray, List.set_cons_zero, List.set_cons_succ]
    refine Pl.run_go (fun K hK => ?_)
    go_simp
    refine hK.out _ _ (Pl.more_go _ (fun _ h => h) (by exact hq.out _ hb1'.out) ?_)
    clear hK K
    refine Pl.done_go ?_
    go_wp2_with fail
    refine hc.out.mono ?_
    rintro e w2' ⟨rfl, q, rfl⟩
    have hb2 := Lib.hid (hb1'.out.trans ((Joins.below_draws _ w1 q).mono hb1'.out.size))
    have hs2 := Lib.hid (h'.out.below hb2.out)
    generalize w1.drewN q = w2 at hb2 hs2 ⊢
    clear hcv hc hq hdr
    have c0 := hs2.out.c0
    have c1 := hs2.out.c1
    have f1 := hs2.out.frozen 1
    go_wp2_with fail
    refine (fail_any _ 6 S.length).mono ?_
    rintro e w3 ⟨rfl, rfl⟩
    go_wp2_with fail
    refine ⟨rfl, grown_in hb2.out, ?_⟩
    unfold upto
    rw [hf'.out]
    simp only
    rw [List.length_drop, Nat.add_sub_cancel' hk]
  | some n =>
    obtain ⟨hn1, hn2⟩ := find_len hf
    rw [List.length_drop] at hn1
    have hf' := Lib.hid hf
    have hn2' := Lib.hid hn2
    rw [hf] at hc
    unfold idxV at hc
    clear hf hn2
    have i0 : decide ((n : Int) < 0) = false := by simp
    go_enter Tryz.func62, Tryz.ntmps62
    go_wp2_with fail
    refine Pl.wp_region_plan 11 (.take 0 (.take 1 (.take 2 (.take 3 (.take 4 (.take 5 (.take 6 (.take 7 (.take 8 (.take 9 (.run 10 .done))))))))))) (fun x => x.cell? ⟨b, 0, none⟩ = some (.slice A S.length c) ∧ x.cell? ⟨b, 1, none⟩ = some (.int .i64 (k : Nat))) (by kernel_rfl) (by kernel_rfl) (by exact hq.out _ hdr.out) ?_
    simp only [Pl.fill, List.getElem?_cons_zero, List.getElem?_cons_succ, List.drop_succ_cons, List.drop_zero]
    iterate 10
      refine Pl.take_go ?_ (by rfl) (fun _ _ _ h => h) ?_ ?_
      rotate_left
      · (intro x hSw; (try dsimp only at hSw); (try obtain ⟨s0, s1⟩ := hSw); go_simp; try with_reducible rfl)
      try simp only [Act.put, List.setIfInBounds_toArray, List.set_cons_zero, List.set_cons_succ]
    refine Pl.run_go (fun K hK => ?_)
    go_simp
    refine hK.out _ _ (Pl.more_go _ (fun _ h => h) (by exact hq.out _ hb1'.out) ?_)
    clear hK K
    refine Pl.done_go ?_
    go_wp2_with fail
    refine hc.out.mono ?_
    rintro e w2' ⟨rfl, q, rfl⟩
    have hb2 := Lib.hid (hb1'.out.trans ((Joins.below_draws _ w1 q).mono hb1'.out.size))
    have hs2 := Lib.hid (h'.out.below hb2.out)
    generalize w1.drewN q = w2 at hb2 hs2 ⊢
    clear hcv hc hq hdr
    have c0 := hs2.out.c0
    have c1 := hs2.out.c1
    have f1 := hs2.out.frozen 1
    go_wp2_with fail
    obtain ⟨m, hm⟩ : ∃ m, k + n = m := ⟨_, rfl⟩
    have hmk := Lib.hid (show m - k = n by omega)
    have hcut : Bs w2 (offA A c k) (m - k) (c - k) ((S.drop k).take (m - k)) := Bs.from hs2.out.bs (by omega) (by omega)
    unfold offA at hcut
    rw [hA1] at hcut
    have hmI : (k : Int) + (n : Int) = (m : Int) := by omega
    have q1 : (0 : Int) ≤ (k : Int) ∧ (k : Int) ≤ (m : Int) := ⟨by omega, by omega⟩
    have hq2 : Hid (∀ x, Below w2.heap.size w2 x → x.cell? ⟨b, 0, none⟩ = some (.slice A S.length c) ∧ x.cell? ⟨b, 1, none⟩ = some (.int .i64 (k : Nat))) := Lib.hid fun x hx => ⟨(hs2.out.below hx).c0, (hs2.out.below hx).c1⟩
    have hdr2 : Hid (Below w2.heap.size w2 w2.drew) := Lib.hid (Joins.below_draws w2.heap.size w2 1)
    refine Pl.wp_region_plan 14 (.take 0 (.take 1 (.take 2 (.take 3 (.take 4 (.take 5 (.take 6 (.take 7 (.take 8 (.take 9 (.take 10 (.take 11 (.take 12 (.take 13 .done)))))))))))))) (fun x => x.cell? ⟨b, 0, none⟩ = some (.slice A S.length c) ∧ x.cell? ⟨b, 1, none⟩ = some (.int .i64 (k : Nat))) (by kernel_rfl) (by kernel_rfl) (by exact hq2.out _ hdr2.out) ?_
    simp only [Pl.fill, List.getElem?_cons_zero, List.getElem?_cons_succ, List.drop_succ_cons, List.drop_zero]
    iterate 14
      refine Pl.take_go ?_ (by rfl) (fun _ _ _ h => h) ?_ ?_
      rotate_left
      · (intro x hSw; (try dsimp only at hSw); (try obtain ⟨s0, s1⟩ := hSw); go_simp; try with_reducible rfl)
      try simp only [Act.put, List.setIfInBounds_toArray, List.set_cons_zero, List.set_cons_succ]
    refine Pl.done_go ?_
    have hcv2 : (convert 22 9 (.slice A1 (m - k) (c - k))).run Tryz.prog w2.drew = .ok (.string (strOf ((S.drop k).take (m - k)))) w2.drew := Bs.conv (Bs.below hcut hdr2.out) Tryz.underlying22 Tryz.underlying5 Tryz.underlying9
    have hs3 := Lib.hid (hs2.out.below hdr2.out)
    have hb3 := Lib.hid (hb2.out.trans (hdr2.out.mono hb2.out.size))
    have d1 := hs3.out.c1
    have e1 := hs3.out.frozen 1
    clear hdr2 hq2 c0 c1 f1
    generalize w2.drew = w3 at hcv2 hs3 hb3 d1 e1 ⊢
    go_wp2_with fail
    go_ret
    have h4 := hs3.out.set1 (k + (n + p.length))
    have ee : ((k : Int) + ((n : Int) + (p.length : Int))) = ((k + (n + p.length) : Nat) : Int) := by omega
    rw [ee]
    refine ⟨(grown_in hb3.out).trans h4.2, ?_⟩
    unfold upto
    rw [hf'.out, hmk.out]
    exact ⟨rfl, h4.1⟩
end
end Go.Proofs.YtcecmbbhjaeodaaGreatDoor.Xl
