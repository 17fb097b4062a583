/- Cut's second closure. -/
import Derived.Test.YtjhiihmibleecaaDoorDkClos4
import Derived.Test.YtjhiihmibleecaaDoorPlan
namespace Go.Proofs.YtjhiihmibleecaaDoor.Dk
open Go.RowKit

set_option maxHeartbeats 2000000 in
set_option maxRecDepth 100000 in
theorem cut2 (w : World) (B a mb : Nat) (L : Al Nat) (F : Nat → Fl) (tv : Value) (d : D) (h : Da w B a mb L F tv d) (s : ByteArray) (hs : s.size ≤ 1000000) (bd bn b2 : Nat) (hc : Cp w bd bn a s) (m : Nat) (kz : w.cell? ⟨b2, 0, none⟩ = some (.int .i64 (m : Nat)))
    (b : Nat) (hg : Dk.get L s.data.toList = some b) (hm : m ≤ (F b).data.length) (hfl : (F b).data.length ≤ 1000000000) :
    Calls Tryd.prog 49 #[.pointer (some ⟨bd, 0, none⟩), .pointer (some ⟨bn, 0, none⟩), .pointer (some ⟨b2, 0, none⟩)] w
      fun e w' => e = .returned (.tuple #[]) ∧ St B a mb tv { d with fs := upd s.data.toList (fun f => ⟨f.data.take m, min f.safe m⟩) d.fs } w w' := by
  obtain ⟨k1, k2⟩ := hc
  have c1 := h.c1
  have hlk := fun q => (h.below (Joins.below_draws _ w q)).look s (by unfold maxLen; omega)
  rw [hg] at hlk
  simp only [Option.map_some] at hlk
  obtain ⟨hBb, hblt, A0, c0, hfb, hfs⟩ := h.file hg
  have lt3 := cell_lt kz
  have h' := Lib.hid h
  have hg' := Lib.hid hg
  have kf : w.cell? ⟨b, 0, none⟩ = some (.slice A0 (F b).data.length c0) := by simp [World.cell?, hfb]
  have ks : w.cell? ⟨b, 1, none⟩ = some (.int .i64 ((F b).safe : Nat)) := by simp [World.cell?, hfb]
  have hfb' := Lib.hid hfb
  have hcut := hfs.cut 0 m (by omega) hm A0 (by intro b off e _; rw [e]; rfl) (fun e => e) (fun e => e)
  rw [Nat.sub_zero, Nat.sub_zero, List.drop_zero] at hcut
  have hcut' := Lib.hid hcut
  have hnc := Rd.le hfs
  obtain ⟨N, hN⟩ : ∃ N, (F b).data.length = N := ⟨_, rfl⟩
  have hm0 := hm
  rw [hN] at kf hfb' hm hfl hnc
  obtain ⟨sf, hsf⟩ : ∃ sf, (F b).safe = sf := ⟨_, rfl⟩
  have hsf' := Lib.hid hsf
  have hne : b ≠ b2 := fun e => by rw [← e, kf] at kz; injection kz with kz; cases kz
  rw [hsf] at ks hfb'
  have sall : ∀ w', Below w.heap.size w w' → (Below w.heap.size w w' ∧ w'.cell? ⟨b, 0, none⟩ = some (.slice A0 N c0) ∧ w'.cell? ⟨b, 1, none⟩ = some (.int .i64 (sf : Nat)) ∧ w'.cell? ⟨b2, 0, none⟩ = some (.int .i64 (m : Nat)) ∧ w'.frozen? ⟨b, 0, none⟩ = false ∧ w'.frozen? ⟨b, 1, none⟩ = false) := fun w' hb =>
    ⟨hb, (hb.cell (p := ⟨b, 0, none⟩) hblt).trans kf, (hb.cell (p := ⟨b, 1, none⟩) hblt).trans ks, (hb.cell (p := ⟨b2, 0, none⟩) lt3).trans kz, frozen_of_row w' b 0 _ _ ((hb.block b hblt).trans hfb'.out), frozen_of_row w' b 1 _ _ ((hb.block b hblt).trans hfb'.out)⟩
  have sall' := Lib.hid sall
  have hcl : ∀ w1, Below w.heap.size w w1 → Calls Tryd.prog 26 #[.slice A0 m c0] w1 fun e w2 => ∃ A2 c2, e = .returned (.slice A2 m c2) ∧ Hid (OwB w2 w.heap.size 5 (.slice A2 m c2) ((F b).data.take m)) ∧ Hid (Below w.heap.size w w2) := fun w1 hb1 => by
    refine (clone_any A0 m c0 _ w1 (hcut'.out.below hb1) (by omega)).mono ?_
    rintro e w2 ⟨v, rfl, ho, hb2⟩
    obtain ⟨A2, c2, hv, _⟩ := OwB.slice ho
    have hl : ((F b).data.take m).length = m := by rw [List.length_take]; omega
    rw [hl] at hv
    subst hv
    exact ⟨A2, c2, rfl, Lib.hid (OwB.base ho hb1.size), Lib.hid (hb1.trans (hb2.mono hb1.size))⟩
  have hcl' := Lib.hid hcl
  have q1 : 0 ≤ (m : Int) ∧ (m : Int) ≤ (c0 : Int) := ⟨by omega, by omega⟩
  have q2 : (m : Int) ≤ (c0 : Int) := by omega
  have q3 : m ≤ c0 := by omega
  clear h hg hfb hfs hcut hN hsf hcl sall hm0
  go_enter Tryd.func49, Tryd.ntmps49
  go_wp2_with fail
  go_big_quiet (fail)
  have hb1 : Below w.heap.size w (w.drewN nq) := Joins.below_draws _ w nq
  obtain ⟨_, g1, g2, g3, g4, g5⟩ := sall'.out _ hb1
  generalize w.drewN nq = w1 at hb1 g1 g2 g3 g4 g5 ⊢
  clear k1 k2 kz kf ks c1 hlk
  go_wp2_with fail
  have hBw : B ≤ w.heap.size := by have := h'.out.alt; have := h'.out.base; omega
  refine Pl.wp_region_plan 18 (.take 0 (.take 1 (.take 2 (.take 3 (.take 4 (.take 6 (.take 9 (.take 10 (.take 11 (.take 12 (.take 13 (.take 14 (.run 5 (.take 7 (.run 8 (.take 15 (.take 16 (.run 17 .done))))))))))))))))))
    (fun x => x.cell? ⟨b, 1, none⟩ = some (.int .i64 (sf : Nat)) ∧ x.cell? ⟨b2, 0, none⟩ = some (.int .i64 (m : Nat))) (by kernel_rfl) (by kernel_rfl) (by exact ⟨g2, g3⟩) ?_
  simp only [Pl.fill, List.getElem?_cons_zero, List.getElem?_cons_succ, List.drop_succ_cons, List.drop_zero]
  iterate 12
    refine Pl.take_go ?_ (by rfl) (fun _ _ _ h => h) ?_ ?_
    rotate_left
    · (intro x hSw; (try dsimp only at hSw); go_simp; try with_reducible rfl)
    simp only [Act.put, List.setIfInBounds_toArray, List.set_cons_zero, List.set_cons_succ]
  refine Pl.run_go (fun K hK => ?_)
  go_simp
  refine hK.out _ _ (Pl.more_go _ (fun _ h => h) (by exact ⟨g2, g3⟩) ?_)
  clear hK K
  try simp only [Act.put, List.setIfInBounds_toArray, List.set_cons_zero, List.set_cons_succ]
  refine Pl.take_go ?_ (by rfl) (fun _ _ _ h => h) ?_ ?_
  rotate_left
  · (intro x hSw; (try dsimp only at hSw); go_simp; try with_reducible rfl)
  try simp only [Act.put, List.setIfInBounds_toArray, List.set_cons_zero, List.set_cons_succ]
  refine Pl.run_go (fun K hK => ?_)
  go_simp
  refine (hcl'.out _ (Below.drew hb1)).mono ?_
  rintro e w2 ⟨A2, c2, rfl, ho2, hb2⟩
  obtain ⟨_, m1, m2, m3, m4, m5⟩ := sall'.out _ hb2.out
  have hb2' := Lib.hid hb2.out
  have hD2 := h'.out.below hb2.out
  obtain ⟨hB2, hlt2, A9, c9, hb9, _⟩ := hD2.file hg'.out
  have hset := hD2.setF (get_mem hg'.out) (grown_set w2 ⟨b, 0, none⟩ (.slice A2 m c2)) (g := fun f => ⟨f.data.take m, f.safe⟩) (v' := .slice A2 m c2) (setCell_blk hb9 _)
    (row_kept (OwB.base ho2.out hBw) (grown_set w2 ⟨b, 0, none⟩ (.slice A2 m c2)) (file_noE hb9 (by decide)))
  have hst := store_safe hset hg'.out (min sf m) (g := fun f => ⟨f.data, min f.safe m⟩) (by simp only [if_pos]; rw [hsf'.out])
  have hbs := below_row (B := B) (grown_set w2 ⟨b, 0, none⟩ (.slice A2 m c2)) hB2 (by omega)
  have hfs : Fm w (w2.setCell ⟨b, 0, none⟩ (.slice A2 m c2)) := (Fm.below hb2.out).trans (file_fm hb9 (.slice A2 m c2))
  have hst := hst.on ((hb2.out.mono hBw).trans hbs) hfs
  have e2 : upd s.data.toList (fun f => ⟨f.data, min f.safe m⟩) (upd s.data.toList (fun f => ⟨f.data.take m, f.safe⟩) d.fs) = upd s.data.toList (fun f => ⟨f.data.take m, min f.safe m⟩) d.fs := by
    unfold upd
    rw [List.map_map]
    apply List.map_congr_left
    intro p _
    simp only [Function.comp]
    by_cases e : p.1 = s.data.toList
    · simp [e]
    · simp [e]
  have e3 : ((min sf m : Nat) : Int) = min (sf : Int) (m : Int) := by omega
  rw [e3] at hst
  have hst' := Lib.hid hst
  have he2 := Lib.hid e2
  clear hst hset hbs hfs e2 e3 hD2 hb9 hB2 hlt2 ho2 hb2
  have n2 : (w2.setCell ⟨b, 0, none⟩ (.slice A2 m c2)).cell? ⟨b, 1, none⟩ = some (.int .i64 (sf : Nat)) := (World.cell?_setCell_other _ _ _ _ (by simp)).trans m2
  have n3 : (w2.setCell ⟨b, 0, none⟩ (.slice A2 m c2)).cell? ⟨b2, 0, none⟩ = some (.int .i64 (m : Nat)) := (World.cell?_setCell_other _ _ _ _ (by simp [hne])).trans m3
  have n5 : (w2.setCell ⟨b, 0, none⟩ (.slice A2 m c2)).frozen? ⟨b, 1, none⟩ = false := by simpa using m5
  dsimp only
  refine hK.out _ _ (Pl.more_go _ (fun _ h => h) (by exact ⟨m2, m3⟩) ?_)
  clear hK K
  iterate 2
    refine Pl.take_go ?_ (by rfl) (fun _ _ _ h => h) ?_ ?_
    rotate_left
    · (intro x hSw; (try dsimp only at hSw); go_simp; try with_reducible rfl)
    try simp only [Act.put, List.setIfInBounds_toArray, List.set_cons_zero, List.set_cons_succ]
  refine Pl.run_go (fun K hK => ?_)
  go_simp
  refine hK.out _ _ (Pl.more_go _ (fun _ h => h) (by exact ⟨n2, n3⟩) ?_)
  clear hK K
  refine Pl.done_go ?_
  go_wp2_with fail
  go_end0
  rw [← he2.out]
  exact ⟨rfl, hst'.out⟩
end Go.Proofs.YtjhiihmibleecaaDoor.Dk
