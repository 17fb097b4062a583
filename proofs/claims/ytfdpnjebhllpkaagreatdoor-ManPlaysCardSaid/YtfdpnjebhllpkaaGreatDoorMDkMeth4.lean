/- Append. -/
import Derived.Test.YtfdpnjebhllpkaaGreatDoorMDkClos4
import Derived.Test.YtfdpnjebhllpkaaGreatDoorMPlan
section
namespace Go.Proofs.YtfdpnjebhllpkaaGreatDoor.Dk
open Go.RowKit

set_option maxHeartbeats 2000000 in
set_option maxRecDepth 100000 in
theorem cut2 (w : World) (B a mb : Nat) (L : Al Nat) (F : Nat → Fl) (tv : Value) (d : D) (h : Da w B a mb L F tv d) (s : ByteArray) (hs : s.size ≤ 1000000) (bd bn b2 : Nat) (hc : Cp w bd bn a s) (m : Nat) (kz : w.cell? ⟨b2, 0, none⟩ = some (.int .i64 (m : Nat)))
    (b : Nat) (hg : Dk.get L s.data.toList = some b) (hm : m ≤ (F b).data.length) (hfl : (F b).data.length ≤ 1000000000) :
    Calls Tryz.prog 147 #[.pointer (some ⟨bd, 0, none⟩), .pointer (some ⟨bn, 0, none⟩), .pointer (some ⟨b2, 0, none⟩)] w
      fun e w' => e = .returned (.tuple #[]) ∧ St B a mb tv { d with fs := upd s.data.toList (fun f => ⟨f.data.take m, min f.safe m⟩) d.fs } w w' := by
  obtain ⟨k1, k2⟩ := hc
  have c1 := h.c1
  have hlk := fun q => (h.below (Joins.below_draws _ w q)).look s (by unfold maxLen; omega)
  rw [hg] at hlk
  simp only [Option.map_some] at hlk
  obtain ⟨hBb, hblt, A0, c0, hfb, hfs⟩ := h.file hg
  have lt3 := cell_lt kz
  have h' := Lib.hid h
  have hg' := Lib.hid hg
  have kf : w.cell? ⟨b, 0, none⟩ = some (.slice A0 (F b).data.length c0) := by simp [World.cell?, hfb]
  have ks : w.cell? ⟨b, 1, none⟩ = some (.int .i64 ((F b).safe : Nat)) := by simp [World.cell?, hfb]
  have hfb' := Lib.hid hfb
  have hcut := hfs.cut 0 m (by omega) hm A0 (by intro b off e _; rw [e]; rfl) (fun e => e) (fun e => e)
  rw [Nat.sub_zero, Nat.sub_zero, List.drop_zero] at hcut
  have hcut' := Lib.hid hcut
  have hnc := Rd.le hfs
  obtain ⟨N, hN⟩ : ∃ N, (F b).data.length = N := ⟨_, rfl⟩
  have hm0 := hm
  rw [hN] at kf hfb' hm hfl hnc
  obtain ⟨sf, hsf⟩ : ∃ sf, (F b).safe = sf := ⟨_, rfl⟩
  have hsf' := Lib.hid hsf
  have hne : b ≠ b2 := fun e => by rw [← e, kf] at kz; injection kz with kz; cases kz
  rw [hsf] at ks hfb'
  have sall : ∀ w', Below w.heap.size w w' → (Below w.heap.size w w' ∧ w'.cell? ⟨b, 0, none⟩ = some (.slice A0 N c0) ∧ w'.cell? ⟨b, 1, none⟩ = some (.int .i64 (sf : Nat)) ∧ w'.cell? ⟨b2, 0, none⟩ = some (.int .i64 (m : Nat)) ∧ w'.frozen? ⟨b, 0, none⟩ = false ∧ w'.frozen? ⟨b, 1, none⟩ = false) := fun w' hb =>
    ⟨hb, (hb.cell (p := ⟨b, 0, none⟩) hblt).trans kf, (hb.cell (p := ⟨b, 1, none⟩) hblt).trans ks, (hb.cell (p := ⟨b2, 0, none⟩) lt3).trans kz, frozen_of_row w' b 0 _ _ ((hb.block b hblt).trans hfb'.out), frozen_of_row w' b 1 _ _ ((hb.block b hblt).trans hfb'.out)⟩
  have sall' := Lib.hid sall
  have hcl : ∀ w1, Below w.heap.size w w1 → Calls Tryz.prog 79 #[.slice A0 m c0] w1 fun e w2 => ∃ A2 c2, e = .returned (.slice A2 m c2) ∧ Hid (OwB w2 w.heap.size 5 (.slice A2 m c2) ((F b).data.take m)) ∧ Hid (Below w.heap.size w w2) := fun w1 hb1 => by
    refine (clone_any A0 m c0 _ w1 (hcut'.out.below hb1) (by omega)).mono ?_
    rintro e w2 ⟨v, rfl, ho, hb2⟩
    obtain ⟨A2, c2, hv, _⟩ := OwB.slice ho
    have hl : ((F b).data.take m).length = m := by rw [List.length_take]; omega
    rw [hl] at hv
    subst hv
    exact ⟨A2, c2, rfl, Lib.hid (OwB.base ho hb1.size), Lib.hid (hb1.trans (hb2.mono hb1.size))⟩
  have hcl' := Lib.hid hcl
  have q1 : 0 ≤ (m : Int) ∧ (m : Int) ≤ (c0 : Int) := ⟨by omega, by omega⟩
  have q2 : (m : Int) ≤ (c0 : Int) := by omega
  have q3 : m ≤ c0 := by omega
  clear h hg hfb hfs hcut hN hsf hcl sall hm0
  go_enter Tryz.func147, Tryz.ntmps147
  go_wp2_with fail
  go_big_quiet (fail)
  have hb1 : Below w.heap.size w (w.drewN nq) := Joins.below_draws _ w nq
  obtain ⟨_, g1, g2, g3, g4, g5⟩ := sall'.out _ hb1
  generalize w.drewN nq = w1 at hb1 g1 g2 g3 g4 g5 ⊢
  clear k1 k2 kz kf ks c1 hlk
  go_wp2_with fail
  have hBw : B ≤ w.heap.size := by have := h'.out.alt; have := h'.out.base; omega
  refine Pl.wp_region_plan 18 (.take 0 (.take 1 (.take 2 (.take 3 (.take 4 (.take 6 (.take 9 (.take 10 (.take 11 (.take 12 (.take 13 (.take 14 (.run 5 (.take 7 (.run 8 (.take 15 (.take 16 (.run 17 .done))))))))))))))))))
    (fun x => x.cell? ⟨b, 1, none⟩ = some (.int .i64 (sf : Nat)) ∧ x.cell? ⟨b2, 0, none⟩ = some (.int .i64 (m : Nat))) (by kernel_rfl) (by kernel_rfl) (by exact ⟨g2, g3⟩) ?_
  simp only [Pl.fill, List.getElem?_cons_zero, List.getElem?_cons_succ, List.drop_succ_cons, List.drop_zero]
  iterate 12
    refine Pl.take_go ?_ (by rfl) (fun _ _ _ h => h) ?_ ?_
    rotate_left
    · (intro x hSw; (try dsimp only at hSw); go_simp; try with_reducible rfl)
    simp only [Act.put, List.setIfInBounds_toArray, List.set_cons_zero, List.set_cons_succ]
  refine Pl.run_go (fun K hK => ?_)
  go_simp
  refine hK.out _ _ (Pl.more_go _ (fun _ h => h) (by exact ⟨g2, g3⟩) ?_)
  clear hK K
  try simp only [Act.put, List.setIfInBounds_toArray, List.set_cons_zero, List.set_cons_succ]
  refine Pl.take_go ?_ (by rfl) (fun _ _ _ h => h) ?_ ?_
  rotate_left
  · (intro x hSw; (try dsimp only at hSw); go_simp; try with_reducible rfl)
  try simp only [Act.put, List.setIfInBounds_toArray, List.set_cons_zero, List.set_cons_succ]
  refine Pl.run_go (fun K hK => ?_)
  go_simp
  refine (hcl'.out _ (Below.drew hb1)).mono ?_
  rintro e w2 ⟨A2, c2, rfl, ho2, hb2⟩
  obtain ⟨_, m1, m2, m3, m4, m5⟩ := sall'.out _ hb2.out
  have hb2' := Lib.hid hb2.out
  have hD2 := h'.out.below hb2.out
  obtain ⟨hB2, hlt2, A9, c9, hb9, _⟩ := hD2.file hg'.out
  have hset := hD2.setF (get_mem hg'.out) (grown_set w2 ⟨b, 0, none⟩ (.slice A2 m c2)) (g := fun f => ⟨f.data.take m, f.safe⟩) (v' := .slice A2 m c2) (setCell_blk hb9 _)
    (row_kept (OwB.base ho2.out hBw) (grown_set w2 ⟨b, 0, none⟩ (.slice A2 m c2)) (file_noE hb9 (by decide)))
  have hst := store_safe hset hg'.out (min sf m) (g := fun f => ⟨f.data, min f.safe m⟩) (by simp only [if_pos]; rw [hsf'.out])
  have hbs := below_row (B := B) (grown_set w2 ⟨b, 0, none⟩ (.slice A2 m c2)) hB2 (by omega)
  have hfs : Fm w (w2.setCell ⟨b, 0, none⟩ (.slice A2 m c2)) := (Fm.below hb2.out).trans (file_fm hb9 (.slice A2 m c2))
  have hst := hst.on ((hb2.out.mono hBw).trans hbs) hfs
  have e2 : upd s.data.toList (fun f => ⟨f.data, min f.safe m⟩) (upd s.data.toList (fun f => ⟨f.data.take m, f.safe⟩) d.fs) = upd s.data.toList (fun f => ⟨f.data.take m, min f.safe m⟩) d.fs := by
    unfold upd
    rw [List.map_map]
    apply List.map_congr_left
    intro p _
    simp only [Function.comp]
    by_cases e : p.1 = s.data.toList
    · simp [e]
    · simp [e]
  have e3 : ((min sf m : Nat) : Int) = min (sf : Int) (m : Int) := by omega
  rw [e3] at hst
  have hst' := Lib.hid hst
  have he2 := Lib.hid e2
  clear hst hset hbs hfs e2 e3 hD2 hb9 hB2 hlt2 ho2 hb2
  have n2 : (w2.setCell ⟨b, 0, none⟩ (.slice A2 m c2)).cell? ⟨b, 1, none⟩ = some (.int .i64 (sf : Nat)) := (World.cell?_setCell_other _ _ _ _ (by simp)).trans m2
  have n3 : (w2.setCell ⟨b, 0, none⟩ (.slice A2 m c2)).cell? ⟨b2, 0, none⟩ = some (.int .i64 (m : Nat)) := (World.cell?_setCell_other _ _ _ _ (by simp [hne])).trans m3
  have n5 : (w2.setCell ⟨b, 0, none⟩ (.slice A2 m c2)).frozen? ⟨b, 1, none⟩ = false := by simpa using m5
  dsimp only
  refine hK.out _ _ (Pl.more_go _ (fun _ h => h) (by exact ⟨m2, m3⟩) ?_)
  clear hK K
  iterate 2
    refine Pl.take_go ?_ (by rfl) (fun _ _ _ h => h) ?_ ?_
    rotate_left
    · (intro x hSw; (try dsimp only at hSw); go_simp; try with_reducible rfl)
    try simp only [Act.put, List.setIfInBounds_toArray, List.set_cons_zero, List.set_cons_succ]
  refine Pl.run_go (fun K hK => ?_)
  go_simp
  refine hK.out _ _ (Pl.more_go _ (fun _ h => h) (by exact ⟨n2, n3⟩) ?_)
  clear hK K
  refine Pl.done_go ?_
  go_wp2_with fail
  go_end0
  rw [← he2.out]
  exact ⟨rfl, hst'.out⟩
end Go.Proofs.YtfdpnjebhllpkaaGreatDoor.Dk
end

section
namespace Go.Proofs.YtfdpnjebhllpkaaGreatDoor.Dk
open Go.RowKit

theorem there_refuse (d : D) (nm nt : Name) (n : Int) (b : List UInt8) (k : Nat) (hk : k = 4 ∨ k = 6) : refuse d k nm nt n b = thereC d nm := by
  unfold refuse thereC
  rw [if_neg (by omega)]
  cases Dk.get d.fs nm with
  | none => rfl
  | some f => simp only; rw [if_neg (by omega), if_neg (by omega), if_neg (by omega)]; rfl

/-- The method's two boxes, and there's two. -/
theorem boxes4 (w : World) (a : Nat) (s : ByteArray) : ∃ wA w2, (w.alloc (.cells #[.pointer (some ⟨a, 0, none⟩)] 39)).alloc (.cells #[.string s] 9) = wA ∧
    (wA.drew.alloc (.cells #[.pointer (some ⟨a, 0, none⟩)] 39)).alloc (.cells #[.string s] 9) = w2 ∧ wA.drew.heap.size = w.heap.size + 2 ∧ Cp wA w.heap.size (w.heap.size + 1) a s ∧
    Cp w2 w.heap.size (w.heap.size + 1) a s ∧ Cp w2 (w.heap.size + 2) (w.heap.size + 3) a s ∧ Below w.heap.size w w2 ∧ w2.heap.size = w.heap.size + 4 := by
  refine ⟨_, _, rfl, rfl, ?_⟩
  obtain ⟨c1, b1, s1⟩ := boxes w a s
  generalize (w.alloc (.cells #[.pointer (some ⟨a, 0, none⟩)] 39)).alloc (.cells #[.string s] 9) = wA at *
  have hd : Below (w.heap.size + 2) wA wA.drew := by
    have := bD (Below.refl wA.heap.size wA)
    rw [s1] at this
    exact this
  have sd : wA.drew.heap.size = w.heap.size + 2 := by simpa using s1
  have x2 := c1.below (N := w.heap.size + 2) (by omega) (by omega) hd
  have b2 := b1.trans (hd.mono (by omega))
  refine ⟨sd, c1, ?_⟩
  clear hd
  generalize wA.drew = wC at *
  obtain ⟨c3, b3, s3⟩ := boxes wC a s
  rw [sd] at c3 b3 s3
  exact ⟨x2.below (N := w.heap.size + 2) (by omega) (by omega) b3, c3, b2.trans (b3.mono (by omega)), by omega⟩

theorem there_at (a : Nat) (s : ByteArray) (W w2 : World) (b : Nat) (hb : W.heap.size = b) (h2 : (W.alloc (.cells #[.pointer (some ⟨a, 0, none⟩)] 39)).alloc (.cells #[.string s] 9) = w2) :
    Calls Tryz.prog 135 #[.pointer (some ⟨a, 0, none⟩), .string s] W fun e w' =>
      e = .returned (.func (.func 180) #[] #[.pointer (some ⟨b, 0, none⟩), .pointer (some ⟨b + 1, 0, none⟩)]) ∧ w2 = w' := by
  refine (there_any a s W).mono ?_
  rintro e w' ⟨rfl, rfl⟩
  rw [hb]
  exact ⟨rfl, h2.symm⟩

set_option maxHeartbeats 2000000 in
set_option maxRecDepth 100000 in
theorem Sync_any (w : World) (B a mb : Nat) (L : Al Nat) (F : Nat → Fl) (tv : Value) (d : D) (h : Da w B a mb L F tv d) (hops : d.ops ≤ 1000000) (htl : d.tr.length ≤ 1000000) (s : ByteArray) (hs : s.size ≤ 1000000) :
    Calls Tryz.prog 72 #[.pointer (some ⟨a, 0, none⟩), .string s] w (OpP B a mb tv (op d 4 s.data.toList [] 0 []) w) := by
  obtain ⟨wA, w2, hwA, hw2, sA, hcA, hcp, hcp2, hb2, hsz⟩ := boxes4 w a s
  have halt := h.alt
  have hB := h.base
  have hw2' := Lib.hid hw2
  obtain ⟨b0, hb0⟩ : ∃ b0, w.heap.size = b0 := ⟨_, rfl⟩
  have h2 := h.below hb2
  have sA' := Lib.hid sA
  rw [hb0] at hcp hcp2 hsz halt sA' hcA
  have hcp' := hcp.set (i := 3) (c := a) (by omega) (by omega) (.int .i64 ((d.ops + 1 : Nat)))
  have hcp2' := hcp2.set (i := 3) (c := a) (by omega) (by omega) (.int .i64 ((d.ops + 1 : Nat)))
  obtain ⟨hD2, _⟩ := h2.setOps (d.ops + 1)
  have hop := operate_any w2 B a mb L F tv d h2 hops htl 180 128 136 #[.pointer (some ⟨b0 + 2, 0, none⟩), .pointer (some ⟨b0 + 3, 0, none⟩)] #[] #[.pointer (some ⟨b0, 0, none⟩), .pointer (some ⟨b0 + 1, 0, none⟩)]
    (refuse d 4 s.data.toList [] 0 []) (fun p => { d with ops := d.ops + 1, fs := part d.fs 4 s.data.toList p [] }) { d with ops := d.ops + 1, fs := act d.fs 4 s.data.toList [] 0 [] }
    (enters_of Tryz.func180 (by kernel_rfl) rfl) (enters_of Tryz.func128 (by kernel_rfl) rfl) (enters_of Tryz.func136 (by kernel_rfl) rfl)
    (fun w1 hb1 => by
      have hD1 := hD2.below (by rw [set_size]; exact hb1)
      have := there1 w1 B a mb L F tv _ hD1 s hs (b0 + 2) (b0 + 3) (hcp2'.below (by omega) (by omega) hb1)
      rw [there_refuse d _ _ _ _ 4 (by decide)]
      exact this)
    (fun w1 p hb1 _ => (nothing_any p w1).mono (by
      rintro e w3 ⟨rfl, rfl⟩
      exact ⟨rfl, St.same (hD2.below (by rw [set_size]; exact hb1))⟩))
    (fun w1 hb1 hc0 => by
      have hD1 := hD2.below (by rw [set_size]; exact hb1)
      rw [there_refuse d _ _ _ _ 4 (by decide)] at hc0
      unfold thereC at hc0
      rw [h.get] at hc0
      cases hg : Dk.get L s.data.toList with
      | none => rw [hg] at hc0; simp at hc0
      | some b => exact sync1 w1 B a mb L F tv _ hD1 s hs b0 (b0 + 1) (hcp'.below (by omega) (by omega) hb1) b hg)
  rw [← op_eq] at hop
  have hop' := Lib.hid hop
  have hb2' := Lib.hid hb2
  have hB' := Lib.hid hB
  have hb0' := Lib.hid hb0
  obtain ⟨k1, k2⟩ := hcA
  have hc2 := Lib.hid hcp
  have hwA' := Lib.hid hwA
  have hmf := make_func
  clear hop hcp hcp' hcp2 hcp2' hD2 h2 h hsz hb2 hB sA hw2 hwA
  go_enter Tryz.func72, Tryz.ntmps72
  go_wp2_with fail
  rw [hwA'.out]
  clear hb0
  refine Pl.wp_region_plan 5 (.take 0 (.take 1 (.take 2 (.take 4 (.run 3 .done))))) (fun x => x.cell? ⟨b0, 0, none⟩ = some (.pointer (some ⟨a, 0, none⟩)) ∧ x.cell? ⟨b0 + 1, 0, none⟩ = some (.string s)) (by kernel_rfl) (by kernel_rfl) (by exact ⟨k1, k2⟩) ?_
  simp only [Pl.fill, List.getElem?_cons_zero, List.getElem?_cons_succ, List.drop_succ_cons, List.drop_zero]
  iterate 4
    refine Pl.take_go ?_ (by rfl) (fun _ _ _ h => h) ?_ ?_
    rotate_left
    · (intro x hSw; (try dsimp only at hSw); go_simp; try with_reducible rfl)
    try simp only [Act.put, List.setIfInBounds_toArray, List.set_cons_zero, List.set_cons_succ]
  refine Pl.run_go (fun K hK => ?_)
  go_simp
  refine (there_at a s _ _ _ sA'.out hw2'.out).mono ?_
  rintro e w4 ⟨rfl, rfl⟩
  dsimp only
  refine hK.out _ _ (Pl.more_go _ (fun _ h => h) (by exact ⟨hc2.out.bd, hc2.out.bn⟩) ?_)
  clear hK K
  refine Pl.done_go ?_
  go_wp2_with fail
  refine hop'.out.mono ?_
  rintro e w5 ⟨rfl, hst⟩
  have hst' := Lib.hid hst
  clear hst hmf
  go_wp2_with fail
  go_ret
  exact ⟨rfl, hst'.out.on (hb2'.out.mono (by have := hB'.out; have := hb0'.out; omega)) (Fm.below hb2'.out)⟩

set_option maxHeartbeats 2000000 in
set_option maxRecDepth 100000 in
theorem Delete_any (w : World) (B a mb : Nat) (L : Al Nat) (F : Nat → Fl) (tv : Value) (d : D) (h : Da w B a mb L F tv d) (hops : d.ops ≤ 1000000) (htl : d.tr.length ≤ 1000000) (s : ByteArray) (hs : s.size ≤ 1000000) :
    Calls Tryz.prog 73 #[.pointer (some ⟨a, 0, none⟩), .string s] w (OpP B a mb tv (op d 6 s.data.toList [] 0 []) w) := by
  obtain ⟨wA, w2, hwA, hw2, sA, hcA, hcp, hcp2, hb2, hsz⟩ := boxes4 w a s
  have halt := h.alt
  have hB := h.base
  have hw2' := Lib.hid hw2
  obtain ⟨b0, hb0⟩ : ∃ b0, w.heap.size = b0 := ⟨_, rfl⟩
  have h2 := h.below hb2
  have sA' := Lib.hid sA
  rw [hb0] at hcp hcp2 hsz halt sA' hcA
  have hcp' := hcp.set (i := 3) (c := a) (by omega) (by omega) (.int .i64 ((d.ops + 1 : Nat)))
  have hcp2' := hcp2.set (i := 3) (c := a) (by omega) (by omega) (.int .i64 ((d.ops + 1 : Nat)))
  obtain ⟨hD2, _⟩ := h2.setOps (d.ops + 1)
  have hop := operate_any w2 B a mb L F tv d h2 hops htl 180 128 137 #[.pointer (some ⟨b0 + 2, 0, none⟩), .pointer (some ⟨b0 + 3, 0, none⟩)] #[] #[.pointer (some ⟨b0, 0, none⟩), .pointer (some ⟨b0 + 1, 0, none⟩)]
    (refuse d 6 s.data.toList [] 0 []) (fun p => { d with ops := d.ops + 1, fs := part d.fs 6 s.data.toList p [] }) { d with ops := d.ops + 1, fs := act d.fs 6 s.data.toList [] 0 [] }
    (enters_of Tryz.func180 (by kernel_rfl) rfl) (enters_of Tryz.func128 (by kernel_rfl) rfl) (enters_of Tryz.func137 (by kernel_rfl) rfl)
    (fun w1 hb1 => by
      have hD1 := hD2.below (by rw [set_size]; exact hb1)
      have := there1 w1 B a mb L F tv _ hD1 s hs (b0 + 2) (b0 + 3) (hcp2'.below (by omega) (by omega) hb1)
      rw [there_refuse d _ _ _ _ 6 (by decide)]
      exact this)
    (fun w1 p hb1 _ => (nothing_any p w1).mono (by
      rintro e w3 ⟨rfl, rfl⟩
      exact ⟨rfl, St.same (hD2.below (by rw [set_size]; exact hb1))⟩))
    (fun w1 hb1 hc0 => by
      have hD1 := hD2.below (by rw [set_size]; exact hb1)
      rw [there_refuse d _ _ _ _ 6 (by decide)] at hc0
      unfold thereC at hc0
      rw [h.get] at hc0
      cases hg : Dk.get L s.data.toList with
      | none => rw [hg] at hc0; simp at hc0
      | some b => exact delete1 w1 B a mb L F tv _ hD1 s hs b0 (b0 + 1) (hcp'.below (by omega) (by omega) hb1))
  rw [← op_eq] at hop
  have hop' := Lib.hid hop
  have hb2' := Lib.hid hb2
  have hB' := Lib.hid hB
  have hb0' := Lib.hid hb0
  obtain ⟨k1, k2⟩ := hcA
  have hc2 := Lib.hid hcp
  have hwA' := Lib.hid hwA
  have hmf := make_func
  clear hop hcp hcp' hcp2 hcp2' hD2 h2 h hsz hb2 hB sA hw2 hwA
  go_enter Tryz.func73, Tryz.ntmps73
  go_wp2_with fail
  rw [hwA'.out]
  clear hb0
  refine Pl.wp_region_plan 5 (.take 0 (.take 1 (.take 2 (.take 4 (.run 3 .done))))) (fun x => x.cell? ⟨b0, 0, none⟩ = some (.pointer (some ⟨a, 0, none⟩)) ∧ x.cell? ⟨b0 + 1, 0, none⟩ = some (.string s)) (by kernel_rfl) (by kernel_rfl) (by exact ⟨k1, k2⟩) ?_
  simp only [Pl.fill, List.getElem?_cons_zero, List.getElem?_cons_succ, List.drop_succ_cons, List.drop_zero]
  iterate 4
    refine Pl.take_go ?_ (by rfl) (fun _ _ _ h => h) ?_ ?_
    rotate_left
    · (intro x hSw; (try dsimp only at hSw); go_simp; try with_reducible rfl)
    try simp only [Act.put, List.setIfInBounds_toArray, List.set_cons_zero, List.set_cons_succ]
  refine Pl.run_go (fun K hK => ?_)
  go_simp
  refine (there_at a s _ _ _ sA'.out hw2'.out).mono ?_
  rintro e w4 ⟨rfl, rfl⟩
  dsimp only
  refine hK.out _ _ (Pl.more_go _ (fun _ h => h) (by exact ⟨hc2.out.bd, hc2.out.bn⟩) ?_)
  clear hK K
  refine Pl.done_go ?_
  go_wp2_with fail
  refine hop'.out.mono ?_
  rintro e w5 ⟨rfl, hst⟩
  have hst' := Lib.hid hst
  clear hst hmf
  go_wp2_with fail
  go_ret
  exact ⟨rfl, hst'.out.on (hb2'.out.mono (by have := hB'.out; have := hb0'.out; omega)) (Fm.below hb2'.out)⟩

end Go.Proofs.YtfdpnjebhllpkaaGreatDoor.Dk
end

section
namespace Go.Proofs.YtfdpnjebhllpkaaGreatDoor.Dk
open Go.RowKit

/-- Three boxes: the disk, the name, and one thing more. -/
theorem boxes3 (w : World) (a : Nat) (s : ByteArray) (v : Value) (E : TypeId) : ∃ w3, ((w.alloc (.cells #[.pointer (some ⟨a, 0, none⟩)] 39)).alloc (.cells #[.string s] 9)).alloc (.cells #[v] E) = w3 ∧
    Cp w3 w.heap.size (w.heap.size + 1) a s ∧ w3.cell? ⟨w.heap.size + 2, 0, none⟩ = some v ∧ Below w.heap.size w w3 ∧ w3.heap.size = w.heap.size + 3 := by
  refine ⟨_, rfl, ?_⟩
  obtain ⟨c1, b1, s1⟩ := boxes w a s
  generalize (w.alloc (.cells #[.pointer (some ⟨a, 0, none⟩)] 39)).alloc (.cells #[.string s] 9) = wA at *
  have hb := below_alloc wA (.cells #[v] E)
  rw [s1] at hb
  refine ⟨c1.below (N := w.heap.size + 2) (by omega) (by omega) hb, ?_, b1.trans (hb.mono (by omega)), by simp; omega⟩
  rw [← s1]
  simp

set_option maxHeartbeats 2000000 in
set_option maxRecDepth 100000 in
theorem Cut_any (w : World) (B a mb : Nat) (L : Al Nat) (F : Nat → Fl) (tv : Value) (d : D) (h : Da w B a mb L F tv d) (hops : d.ops ≤ 1000000) (htl : d.tr.length ≤ 1000000) (hfl : ∀ p ∈ d.fs, p.2.data.length ≤ 1000000000) (s : ByteArray) (hs : s.size ≤ 1000000) (z : Int) :
    Calls Tryz.prog 81 #[.pointer (some ⟨a, 0, none⟩), .string s, .int .i64 z] w (OpP B a mb tv (op d 3 s.data.toList [] z []) w) := by
  obtain ⟨w2, hw2, hcp, hk3, hb2, hsz⟩ := boxes3 w a s (.int .i64 z) 3
  have halt := h.alt
  have hB := h.base
  have hw2' := Lib.hid hw2
  obtain ⟨b0, hb0⟩ : ∃ b0, w.heap.size = b0 := ⟨_, rfl⟩
  have h2 := h.below hb2
  rw [hb0] at hcp hsz halt hk3
  have hcp' := hcp.set (i := 3) (c := a) (by omega) (by omega) (.int .i64 ((d.ops + 1 : Nat)))
  have hk3' : (w2.setCell ⟨a, 3, none⟩ (.int .i64 ((d.ops + 1 : Nat)))).cell? ⟨b0 + 2, 0, none⟩ = some (.int .i64 z) := (World.cell?_setCell_other _ _ _ _ (by simp <;> omega)).trans hk3
  obtain ⟨hD2, _⟩ := h2.setOps (d.ops + 1)
  have hop := operate_any w2 B a mb L F tv d h2 hops htl 146 128 147 #[.pointer (some ⟨b0, 0, none⟩), .pointer (some ⟨b0 + 1, 0, none⟩), .pointer (some ⟨b0 + 2, 0, none⟩)] #[] #[.pointer (some ⟨b0, 0, none⟩), .pointer (some ⟨b0 + 1, 0, none⟩), .pointer (some ⟨b0 + 2, 0, none⟩)]
    (refuse d 3 s.data.toList [] z []) (fun p => { d with ops := d.ops + 1, fs := part d.fs 3 s.data.toList p [] }) { d with ops := d.ops + 1, fs := act d.fs 3 s.data.toList [] z [] }
    (enters_of Tryz.func146 (by kernel_rfl) rfl) (enters_of Tryz.func128 (by kernel_rfl) rfl) (enters_of Tryz.func147 (by kernel_rfl) rfl)
    (fun w1 hb1 => by
      have hD1 := hD2.below (by rw [set_size]; exact hb1)
      have hk4 : w1.cell? ⟨b0 + 2, 0, none⟩ = _ := (hb1.cell (p := ⟨b0 + 2, 0, none⟩) (by show b0 + 2 < w2.heap.size; omega)).trans hk3'
      have hcb := hcp'.below (N := w2.heap.size) (by omega) (by omega) hb1
      exact cut1 w1 B a mb L F tv _ hD1 s hs b0 (b0 + 1) (b0 + 2) hcb z hk4 [] [])
    (fun w1 p hb1 _ => (nothing_any p w1).mono (by
      rintro e w3 ⟨rfl, rfl⟩
      exact ⟨rfl, St.same (hD2.below (by rw [set_size]; exact hb1))⟩))
    (fun w1 hb1 hc0 => by
      have hD1 := hD2.below (by rw [set_size]; exact hb1)
      have hk4 : w1.cell? ⟨b0 + 2, 0, none⟩ = _ := (hb1.cell (p := ⟨b0 + 2, 0, none⟩) (by show b0 + 2 < w2.heap.size; omega)).trans hk3'
      have hcb := hcp'.below (N := w2.heap.size) (by omega) (by omega) hb1
      unfold refuse at hc0
      rw [if_neg (by decide), h.get] at hc0
      cases hg : Dk.get L s.data.toList with
      | none => rw [hg] at hc0; simp at hc0
      | some b =>
        rw [hg] at hc0
        have hlen := hfl (s.data.toList, F b) (by rw [h.fs]; exact List.mem_map.2 ⟨_, get_mem hg, rfl⟩)
        simp only [Option.map_some] at hc0
        have hz : 0 ≤ z ∧ z ≤ ((F b).data.length : Int) := by
          simp at hc0
          omega
        obtain ⟨m, rfl⟩ := Int.eq_ofNat_of_zero_le hz.1
        exact cut2 w1 B a mb L F tv _ hD1 s hs b0 (b0 + 1) (b0 + 2) hcb m hk4 b hg (by omega) hlen)
  rw [← op_eq] at hop
  have hop' := Lib.hid hop
  have hb2' := Lib.hid hb2
  have hB' := Lib.hid hB
  have hb0' := Lib.hid hb0
  obtain ⟨k1, k2⟩ := hcp
  have hmf := make_func
  clear hop hcp' hk3' hD2 h2 h hsz hb2 hB
  go_enter Tryz.func81, Tryz.ntmps81
  go_wp2_with fail
  refine hop'.out.mono ?_
  rintro e w5 ⟨rfl, hst⟩
  have hst' := Lib.hid hst
  clear hst hmf
  go_wp2_with fail
  go_ret
  exact ⟨rfl, hst'.out.on (hb2'.out.mono (by have := hB'.out; have := hb0'.out; omega)) (Fm.below hb2'.out)⟩

set_option maxHeartbeats 2000000 in
set_option maxRecDepth 100000 in
theorem Rename_any (w : World) (B a mb : Nat) (L : Al Nat) (F : Nat → Fl) (tv : Value) (d : D) (h : Da w B a mb L F tv d) (hops : d.ops ≤ 1000000) (htl : d.tr.length ≤ 1000000) (hfl : d.fs.length ≤ 1000) (s : ByteArray) (hs : s.size ≤ 1000000) (s2 : ByteArray) (hs2 : s2.size ≤ 1000000) :
    Calls Tryz.prog 98 #[.pointer (some ⟨a, 0, none⟩), .string s, .string s2] w (OpP B a mb tv (op d 5 s.data.toList s2.data.toList 0 []) w) := by
  obtain ⟨w2, hw2, hcp, hk3, hb2, hsz⟩ := boxes3 w a s (.string s2) 9
  have halt := h.alt
  have hB := h.base
  have hw2' := Lib.hid hw2
  obtain ⟨b0, hb0⟩ : ∃ b0, w.heap.size = b0 := ⟨_, rfl⟩
  have h2 := h.below hb2
  rw [hb0] at hcp hsz halt hk3
  have hcp' := hcp.set (i := 3) (c := a) (by omega) (by omega) (.int .i64 ((d.ops + 1 : Nat)))
  have hk3' : (w2.setCell ⟨a, 3, none⟩ (.int .i64 ((d.ops + 1 : Nat)))).cell? ⟨b0 + 2, 0, none⟩ = some (.string s2) := (World.cell?_setCell_other _ _ _ _ (by simp <;> omega)).trans hk3
  obtain ⟨hD2, _⟩ := h2.setOps (d.ops + 1)
  have hop := operate_any w2 B a mb L F tv d h2 hops htl 157 128 158 #[.pointer (some ⟨b0, 0, none⟩), .pointer (some ⟨b0 + 1, 0, none⟩), .pointer (some ⟨b0 + 2, 0, none⟩)] #[] #[.pointer (some ⟨b0, 0, none⟩), .pointer (some ⟨b0 + 1, 0, none⟩), .pointer (some ⟨b0 + 2, 0, none⟩)]
    (refuse d 5 s.data.toList s2.data.toList 0 []) (fun p => { d with ops := d.ops + 1, fs := part d.fs 5 s.data.toList p [] }) { d with ops := d.ops + 1, fs := act d.fs 5 s.data.toList s2.data.toList 0 [] }
    (enters_of Tryz.func157 (by kernel_rfl) rfl) (enters_of Tryz.func128 (by kernel_rfl) rfl) (enters_of Tryz.func158 (by kernel_rfl) rfl)
    (fun w1 hb1 => by
      have hD1 := hD2.below (by rw [set_size]; exact hb1)
      have hk4 : w1.cell? ⟨b0 + 2, 0, none⟩ = _ := (hb1.cell (p := ⟨b0 + 2, 0, none⟩) (by show b0 + 2 < w2.heap.size; omega)).trans hk3'
      have hcb := hcp'.below (N := w2.heap.size) (by omega) (by omega) hb1
      exact rename1 w1 B a mb L F tv _ hD1 s s2 hs hs2 b0 (b0 + 1) (b0 + 2) hcb ⟨hcb.bd, hk4⟩ 0 [])
    (fun w1 p hb1 _ => (nothing_any p w1).mono (by
      rintro e w3 ⟨rfl, rfl⟩
      exact ⟨rfl, St.same (hD2.below (by rw [set_size]; exact hb1))⟩))
    (fun w1 hb1 hc0 => by
      have hD1 := hD2.below (by rw [set_size]; exact hb1)
      have hk4 : w1.cell? ⟨b0 + 2, 0, none⟩ = _ := (hb1.cell (p := ⟨b0 + 2, 0, none⟩) (by show b0 + 2 < w2.heap.size; omega)).trans hk3'
      have hcb := hcp'.below (N := w2.heap.size) (by omega) (by omega) hb1
      unfold refuse at hc0
      rw [if_neg (by decide), h.get] at hc0
      cases hg : Dk.get L s.data.toList with
      | none => rw [hg] at hc0; simp at hc0
      | some b =>
        rw [hg] at hc0
        have hgd : Dk.get d.fs s.data.toList = some (F b) := by rw [h.get, hg]; rfl
        have := rename2 w1 B a mb L F tv _ hD1 s s2 hs hs2 b0 (b0 + 1) (b0 + 2) hcb ⟨hcb.bd, hk4⟩ b hg hfl
        unfold act
        rw [hgd]
        exact this)
  rw [← op_eq] at hop
  have hop' := Lib.hid hop
  have hb2' := Lib.hid hb2
  have hB' := Lib.hid hB
  have hb0' := Lib.hid hb0
  obtain ⟨k1, k2⟩ := hcp
  have hmf := make_func
  clear hop hcp' hk3' hD2 h2 h hsz hb2 hB
  go_enter Tryz.func98, Tryz.ntmps98
  go_wp2_with fail
  refine hop'.out.mono ?_
  rintro e w5 ⟨rfl, hst⟩
  have hst' := Lib.hid hst
  clear hst hmf
  go_wp2_with fail
  go_ret
  exact ⟨rfl, hst'.out.on (hb2'.out.mono (by have := hB'.out; have := hb0'.out; omega)) (Fm.below hb2'.out)⟩
end Go.Proofs.YtfdpnjebhllpkaaGreatDoor.Dk
end

section
namespace Go.Proofs.YtfdpnjebhllpkaaGreatDoor.Dk
open Go.RowKit

/-- The variable put, laid behind the boxes. -/
theorem boxPut (w2 : World) (b0 : Nat) (fv : Value) (hsz : w2.heap.size = b0 + 3) : ∃ w3 w4, w2.alloc (.cells #[.nilFunc] 162) = w3 ∧ w3.setCell ⟨b0 + 3, 0, none⟩ fv = w4 ∧ w3.frozen? ⟨b0 + 3, 0, none⟩ = false ∧ w3.cell? ⟨b0 + 3, 0, none⟩ = some .nilFunc ∧
    Below w2.heap.size w2 w4 ∧ w4.cell? ⟨b0 + 3, 0, none⟩ = some fv ∧ w4.heap.size = b0 + 4 := by
  refine ⟨_, _, rfl, rfl, ?_⟩
  have hn := heap_alloc_new w2 (.cells #[.nilFunc] 162)
  rw [hsz] at hn
  have hc : (w2.alloc (.cells #[.nilFunc] 162)).cell? ⟨b0 + 3, 0, none⟩ = some .nilFunc := by simp [World.cell?, hn]
  refine ⟨frozen_of_row _ (b0 + 3) 0 _ _ hn, hc, ?_, ?_, ?_⟩
  · have := below_alloc w2 (.cells #[.nilFunc] 162)
    exact Below.setCell this (by show w2.heap.size ≤ b0 + 3; omega) _
  · exact World.cell?_setCell_same (w := w2.alloc (.cells #[.nilFunc] 162)) (a := ⟨b0 + 3, 0, none⟩) (v := fv) hc
  · rw [set_size]; simp; omega

theorem run_store_fn (a : Addr) (fn : Fn) (f c : Array Value) (w : World) : (store a (.func fn f c)).run Tryz.prog w = stored Tryz.prog w a (.func fn f c) .plain := run_store _ w a _ _ rfl

theorem len_le_used : ∀ {fs : Fs} {p : Name × Fl}, p ∈ fs → p.2.data.length ≤ used fs
  | [], p, h => by cases h
  | q :: r, p, h => by
    rw [used_cons]
    rcases List.mem_cons.1 h with rfl | h
    · omega
    · have := len_le_used h; omega

/-- A cell of another kind is stored to: bytes are as they were. -/
theorem bs_set_int {w : World} {A : Option Addr} {n c : Nat} {l : List UInt8} {p : Addr} {z : Int} (hp : w.cell? p = some (.int .i64 z)) (h : Bs w A n c l) (x : Value) : Bs (w.setCell p x) A n c l :=
  ⟨Rd.len h, Rd.le h, Rd.max h, Rd.nil h, fun hn => by
    obtain ⟨b, off, e, hb, hc⟩ := Rd.cell h hn
    refine ⟨b, off, e, by rw [set_size]; exact hb, fun j u hu => (World.cell?_setCell_other _ _ _ _ fun ep => ?_).trans (hc j u hu)⟩
    have hc' := hc j u hu
    obtain ⟨y, _, rfl⟩ := bv_get hu
    rw [← ep, hp] at hc'
    injection hc' with hc'
    cases hc'⟩

set_option maxHeartbeats 2000000 in
set_option maxRecDepth 100000 in
theorem Append_any (w : World) (B a mb : Nat) (L : Al Nat) (F : Nat → Fl) (tv : Value) (d : D) (h : Da w B a mb L F tv d) (hops : d.ops ≤ 1000000) (htl : d.tr.length ≤ 1000000) (s : ByteArray) (hs : s.size ≤ 1000000)
    (A : Option Addr) (n c : Nat) (l : List UInt8) (hBs : Bs w A n c l) (hn : n ≤ 1000000) (hu : used d.fs ≤ 1000000000) (hroom : d.room ≤ 9223372036854775807) :
    Calls Tryz.prog 71 #[.pointer (some ⟨a, 0, none⟩), .string s, .slice A n c] w (OpP B a mb tv (op d 2 s.data.toList [] 0 l) w) := by
  obtain ⟨w2, hw2, hcp2, hk2, hb2, hsz2⟩ := boxes3 w a s (.slice A n c) 22
  have halt := h.alt
  have hB := h.base
  obtain ⟨b0, hb0⟩ : ∃ b0, w.heap.size = b0 := ⟨_, rfl⟩
  rw [hb0] at hcp2 hsz2 halt hk2
  obtain ⟨w3, w4, hw3, hw4, hf3, hc3, hb4, hp4, hsz⟩ := boxPut w2 b0 (.func (.func 130) #[] #[.pointer (some ⟨b0, 0, none⟩), .pointer (some ⟨b0 + 1, 0, none⟩), .pointer (some ⟨b0 + 1 + 1, 0, none⟩)]) hsz2
  have hb24 : Below w.heap.size w w4 := hb2.trans (hb4.mono (by omega))
  have h2 := h.below hb24
  have hcp := hcp2.below (N := w2.heap.size) (by omega) (by omega) hb4
  have hk3 : w4.cell? ⟨b0 + 2, 0, none⟩ = some (.slice A n c) := (hb4.cell (p := ⟨b0 + 2, 0, none⟩) (by show b0 + 2 < w2.heap.size; omega)).trans hk2
  have hcp' := hcp.set (i := 3) (c := a) (by omega) (by omega) (.int .i64 ((d.ops + 1 : Nat)))
  have hk3' : (w4.setCell ⟨a, 3, none⟩ (.int .i64 ((d.ops + 1 : Nat)))).cell? ⟨b0 + 2, 0, none⟩ = some (.slice A n c) := (World.cell?_setCell_other _ _ _ _ (by simp <;> omega)).trans hk3
  have hp4' : (w4.setCell ⟨a, 3, none⟩ (.int .i64 ((d.ops + 1 : Nat)))).cell? ⟨b0 + 3, 0, none⟩ = _ := (World.cell?_setCell_other _ _ _ _ (by simp <;> omega)).trans hp4
  obtain ⟨hD2, _⟩ := h2.setOps (d.ops + 1)
  have hl : l.length = n := hBs.len
  have hBs4 : ∀ w1, Below w4.heap.size (w4.setCell ⟨a, 3, none⟩ (.int .i64 ((d.ops + 1 : Nat)))) w1 → Bs w1 A n c l := fun w1 hb1 => by
    have h1 := hBs.below hb24
    have h2 : Bs (w4.setCell ⟨a, 3, none⟩ (.int .i64 ((d.ops + 1 : Nat)))) A n c l := bs_set_int (z := (d.ops : Nat)) (by simp [World.cell?, h2.blk]) h1 _
    exact h2.below (by rw [set_size]; exact hb1)
  have hop := operate_any w4 B a mb L F tv d h2 hops htl 132 133 134 #[.pointer (some ⟨b0, 0, none⟩), .pointer (some ⟨b0 + 1, 0, none⟩), .pointer (some ⟨b0 + 2, 0, none⟩)] #[.pointer (some ⟨b0 + 3, 0, none⟩), .pointer (some ⟨b0 + 2, 0, none⟩)] #[.pointer (some ⟨b0 + 3, 0, none⟩), .pointer (some ⟨b0 + 2, 0, none⟩)]
    (refuse d 2 s.data.toList [] 0 l) (fun p => { d with ops := d.ops + 1, fs := part d.fs 2 s.data.toList p l }) { d with ops := d.ops + 1, fs := act d.fs 2 s.data.toList [] 0 l }
    (enters_of Tryz.func132 (by kernel_rfl) rfl) (enters_of Tryz.func133 (by kernel_rfl) rfl) (enters_of Tryz.func134 (by kernel_rfl) rfl)
    (fun w1 hb1 => by
      have hD1 := hD2.below (by rw [set_size]; exact hb1)
      have hk4 : w1.cell? ⟨b0 + 2, 0, none⟩ = _ := (hb1.cell (p := ⟨b0 + 2, 0, none⟩) (by show b0 + 2 < w4.heap.size; omega)).trans hk3'
      have hcb := hcp'.below (N := w4.heap.size) (by omega) (by omega) hb1
      exact append2 w1 B a mb L F tv _ hD1 s hs b0 (b0 + 1) (b0 + 2) hcb A n c l hl hk4 hn hu hroom 0 [])
    (fun w1 p hb1 hc0 => by
      have hD1 := hD2.below (by rw [set_size]; exact hb1)
      have hk4 : w1.cell? ⟨b0 + 2, 0, none⟩ = _ := (hb1.cell (p := ⟨b0 + 2, 0, none⟩) (by show b0 + 2 < w4.heap.size; omega)).trans hk3'
      have hp5 : w1.cell? ⟨b0 + 3, 0, none⟩ = _ := (hb1.cell (p := ⟨b0 + 3, 0, none⟩) (by show b0 + 3 < w4.heap.size; omega)).trans hp4'
      have hcb := hcp'.below (N := w4.heap.size) (by omega) (by omega) hb1
      unfold refuse at hc0
      rw [if_neg (by decide), h.get] at hc0
      cases hg : Dk.get L s.data.toList with
      | none => rw [hg] at hc0; simp at hc0
      | some b =>
        have hlen := len_le_used (fs := d.fs) (p := (s.data.toList, F b)) (by rw [h.fs]; exact List.mem_map.2 ⟨_, get_mem hg, rfl⟩)
        exact append3 w1 B a mb L F tv _ hD1 s hs b0 (b0 + 1) (b0 + 2) (b0 + 3) hcb hp5 A n c l hk4 (hBs4 w1 hb1) hn b hg (by simp only at hlen; omega) p)
    (fun w1 hb1 hc0 => by
      have hD1 := hD2.below (by rw [set_size]; exact hb1)
      have hk4 : w1.cell? ⟨b0 + 2, 0, none⟩ = _ := (hb1.cell (p := ⟨b0 + 2, 0, none⟩) (by show b0 + 2 < w4.heap.size; omega)).trans hk3'
      have hp5 : w1.cell? ⟨b0 + 3, 0, none⟩ = _ := (hb1.cell (p := ⟨b0 + 3, 0, none⟩) (by show b0 + 3 < w4.heap.size; omega)).trans hp4'
      have hcb := hcp'.below (N := w4.heap.size) (by omega) (by omega) hb1
      unfold refuse at hc0
      rw [if_neg (by decide), h.get] at hc0
      cases hg : Dk.get L s.data.toList with
      | none => rw [hg] at hc0; simp at hc0
      | some b =>
        have hlen := len_le_used (fs := d.fs) (p := (s.data.toList, F b)) (by rw [h.fs]; exact List.mem_map.2 ⟨_, get_mem hg, rfl⟩)
        exact append4 w1 B a mb L F tv _ hD1 s hs b0 (b0 + 1) (b0 + 2) (b0 + 3) hcb hp5 A n c l hk4 (hBs4 w1 hb1) hn b hg (by simp only at hlen; omega))
  rw [← op_eq] at hop
  have hop' := Lib.hid hop
  have hb2' := Lib.hid hb24
  have hB' := Lib.hid hB
  have hb0' := Lib.hid hb0
  obtain ⟨k1, k2⟩ := hcp
  have hmf := make_func
  have hsf := run_store_fn
  clear hop hcp' hk3' hp4' hD2 h2 h hsz hb2 hB hBs4 hb24 hcp2 hk2 hl
  go_enter Tryz.func71, Tryz.ntmps71
  go_wp2_with fail
  refine hop'.out.mono ?_
  rintro e w5 ⟨rfl, hst⟩
  have hst' := Lib.hid hst
  clear hst hmf hsf
  go_wp2_with fail
  go_ret
  exact ⟨rfl, hst'.out.on (hb2'.out.mono (by have := hB'.out; have := hb0'.out; omega)) (Fm.below hb2'.out)⟩
end Go.Proofs.YtfdpnjebhllpkaaGreatDoor.Dk
end
