/- Sync and Delete. -/
import Derived.Test.YtjhiihmibleecaaDoorDkCut
namespace Go.Proofs.YtjhiihmibleecaaDoor.Dk
open Go.RowKit

theorem there_refuse (d : D) (nm nt : Name) (n : Int) (b : List UInt8) (k : Nat) (hk : k = 4 ∨ k = 6) : refuse d k nm nt n b = thereC d nm := by
  unfold refuse thereC
  rw [if_neg (by omega)]
  cases Dk.get d.fs nm with
  | none => rfl
  | some f => simp only; rw [if_neg (by omega), if_neg (by omega), if_neg (by omega)]; rfl

/-- The method's two boxes, and there's two. -/
theorem boxes4 (w : World) (a : Nat) (s : ByteArray) : ∃ wA w2, (w.alloc (.cells #[.pointer (some ⟨a, 0, none⟩)] 25)).alloc (.cells #[.string s] 9) = wA ∧
    (wA.drew.alloc (.cells #[.pointer (some ⟨a, 0, none⟩)] 25)).alloc (.cells #[.string s] 9) = w2 ∧ wA.drew.heap.size = w.heap.size + 2 ∧ Cp wA w.heap.size (w.heap.size + 1) a s ∧
    Cp w2 w.heap.size (w.heap.size + 1) a s ∧ Cp w2 (w.heap.size + 2) (w.heap.size + 3) a s ∧ Below w.heap.size w w2 ∧ w2.heap.size = w.heap.size + 4 := by
  refine ⟨_, _, rfl, rfl, ?_⟩
  obtain ⟨c1, b1, s1⟩ := boxes w a s
  generalize (w.alloc (.cells #[.pointer (some ⟨a, 0, none⟩)] 25)).alloc (.cells #[.string s] 9) = wA at *
  have hd : Below (w.heap.size + 2) wA wA.drew := by
    have := bD (Below.refl wA.heap.size wA)
    rw [s1] at this
    exact this
  have sd : wA.drew.heap.size = w.heap.size + 2 := by simpa using s1
  have x2 := c1.below (N := w.heap.size + 2) (by omega) (by omega) hd
  have b2 := b1.trans (hd.mono (by omega))
  refine ⟨sd, c1, ?_⟩
  clear hd
  generalize wA.drew = wC at *
  obtain ⟨c3, b3, s3⟩ := boxes wC a s
  rw [sd] at c3 b3 s3
  exact ⟨x2.below (N := w.heap.size + 2) (by omega) (by omega) b3, c3, b2.trans (b3.mono (by omega)), by omega⟩

theorem there_at (a : Nat) (s : ByteArray) (W w2 : World) (b : Nat) (hb : W.heap.size = b) (h2 : (W.alloc (.cells #[.pointer (some ⟨a, 0, none⟩)] 25)).alloc (.cells #[.string s] 9) = w2) :
    Calls Tryd.prog 38 #[.pointer (some ⟨a, 0, none⟩), .string s] W fun e w' =>
      e = .returned (.func (.func 47) #[] #[.pointer (some ⟨b, 0, none⟩), .pointer (some ⟨b + 1, 0, none⟩)]) ∧ w2 = w' := by
  refine (there_any a s W).mono ?_
  rintro e w' ⟨rfl, rfl⟩
  rw [hb]
  exact ⟨rfl, h2.symm⟩

set_option maxHeartbeats 2000000 in
set_option maxRecDepth 100000 in
theorem Sync_any (w : World) (B a mb : Nat) (L : Al Nat) (F : Nat → Fl) (tv : Value) (d : D) (h : Da w B a mb L F tv d) (hops : d.ops ≤ 1000000) (htl : d.tr.length ≤ 1000000) (s : ByteArray) (hs : s.size ≤ 1000000) :
    Calls Tryd.prog 19 #[.pointer (some ⟨a, 0, none⟩), .string s] w (OpP B a mb tv (op d 4 s.data.toList [] 0 []) w) := by
  obtain ⟨wA, w2, hwA, hw2, sA, hcA, hcp, hcp2, hb2, hsz⟩ := boxes4 w a s
  have halt := h.alt
  have hB := h.base
  have hw2' := Lib.hid hw2
  obtain ⟨b0, hb0⟩ : ∃ b0, w.heap.size = b0 := ⟨_, rfl⟩
  have h2 := h.below hb2
  have sA' := Lib.hid sA
  rw [hb0] at hcp hcp2 hsz halt sA' hcA
  have hcp' := hcp.set (i := 3) (c := a) (by omega) (by omega) (.int .i64 ((d.ops + 1 : Nat)))
  have hcp2' := hcp2.set (i := 3) (c := a) (by omega) (by omega) (.int .i64 ((d.ops + 1 : Nat)))
  obtain ⟨hD2, _⟩ := h2.setOps (d.ops + 1)
  have hop := operate_any w2 B a mb L F tv d h2 hops htl 47 29 39 #[.pointer (some ⟨b0 + 2, 0, none⟩), .pointer (some ⟨b0 + 3, 0, none⟩)] #[] #[.pointer (some ⟨b0, 0, none⟩), .pointer (some ⟨b0 + 1, 0, none⟩)]
    (refuse d 4 s.data.toList [] 0 []) (fun p => { d with ops := d.ops + 1, fs := part d.fs 4 s.data.toList p [] }) { d with ops := d.ops + 1, fs := act d.fs 4 s.data.toList [] 0 [] }
    (enters_of Tryd.func47 (by kernel_rfl) rfl) (enters_of Tryd.func29 (by kernel_rfl) rfl) (enters_of Tryd.func39 (by kernel_rfl) rfl)
    (fun w1 hb1 => by
      have hD1 := hD2.below (by rw [set_size]; exact hb1)
      have := there1 w1 B a mb L F tv _ hD1 s hs (b0 + 2) (b0 + 3) (hcp2'.below (by omega) (by omega) hb1)
      rw [there_refuse d _ _ _ _ 4 (by decide)]
      exact this)
    (fun w1 p hb1 _ => (nothing_any p w1).mono (by
      rintro e w3 ⟨rfl, rfl⟩
      exact ⟨rfl, St.same (hD2.below (by rw [set_size]; exact hb1))⟩))
    (fun w1 hb1 hc0 => by
      have hD1 := hD2.below (by rw [set_size]; exact hb1)
      rw [there_refuse d _ _ _ _ 4 (by decide)] at hc0
      unfold thereC at hc0
      rw [h.get] at hc0
      cases hg : Dk.get L s.data.toList with
      | none => rw [hg] at hc0; simp at hc0
      | some b => exact sync1 w1 B a mb L F tv _ hD1 s hs b0 (b0 + 1) (hcp'.below (by omega) (by omega) hb1) b hg)
  rw [← op_eq] at hop
  have hop' := Lib.hid hop
  have hb2' := Lib.hid hb2
  have hB' := Lib.hid hB
  have hb0' := Lib.hid hb0
  obtain ⟨k1, k2⟩ := hcA
  have hc2 := Lib.hid hcp
  have hwA' := Lib.hid hwA
  have hmf := make_func
  clear hop hcp hcp' hcp2 hcp2' hD2 h2 h hsz hb2 hB sA hw2 hwA
  go_enter Tryd.func19, Tryd.ntmps19
  go_wp2_with fail
  rw [hwA'.out]
  clear hb0
  refine Pl.wp_region_plan 5 (.take 0 (.take 1 (.take 2 (.take 4 (.run 3 .done))))) (fun x => x.cell? ⟨b0, 0, none⟩ = some (.pointer (some ⟨a, 0, none⟩)) ∧ x.cell? ⟨b0 + 1, 0, none⟩ = some (.string s)) (by kernel_rfl) (by kernel_rfl) (by exact ⟨k1, k2⟩) ?_
  simp only [Pl.fill, List.getElem?_cons_zero, List.getElem?_cons_succ, List.drop_succ_cons, List.drop_zero]
  iterate 4
    refine Pl.take_go ?_ (by rfl) (fun _ _ _ h => h) ?_ ?_
    rotate_left
    · (intro x hSw; (try dsimp only at hSw); go_simp; try with_reducible rfl)
    try simp only [Act.put, List.setIfInBounds_toArray, List.set_cons_zero, List.set_cons_succ]
  refine Pl.run_go (fun K hK => ?_)
  go_simp
  refine (there_at a s _ _ _ sA'.out hw2'.out).mono ?_
  rintro e w4 ⟨rfl, rfl⟩
  dsimp only
  refine hK.out _ _ (Pl.more_go _ (fun _ h => h) (by exact ⟨hc2.out.bd, hc2.out.bn⟩) ?_)
  clear hK K
  refine Pl.done_go ?_
  go_wp2_with fail
  refine hop'.out.mono ?_
  rintro e w5 ⟨rfl, hst⟩
  have hst' := Lib.hid hst
  clear hst hmf
  go_wp2_with fail
  go_ret
  exact ⟨rfl, hst'.out.on (hb2'.out.mono (by have := hB'.out; have := hb0'.out; omega)) (Fm.below hb2'.out)⟩

set_option maxHeartbeats 2000000 in
set_option maxRecDepth 100000 in
theorem Delete_any (w : World) (B a mb : Nat) (L : Al Nat) (F : Nat → Fl) (tv : Value) (d : D) (h : Da w B a mb L F tv d) (hops : d.ops ≤ 1000000) (htl : d.tr.length ≤ 1000000) (s : ByteArray) (hs : s.size ≤ 1000000) :
    Calls Tryd.prog 41 #[.pointer (some ⟨a, 0, none⟩), .string s] w (OpP B a mb tv (op d 6 s.data.toList [] 0 []) w) := by
  obtain ⟨wA, w2, hwA, hw2, sA, hcA, hcp, hcp2, hb2, hsz⟩ := boxes4 w a s
  have halt := h.alt
  have hB := h.base
  have hw2' := Lib.hid hw2
  obtain ⟨b0, hb0⟩ : ∃ b0, w.heap.size = b0 := ⟨_, rfl⟩
  have h2 := h.below hb2
  have sA' := Lib.hid sA
  rw [hb0] at hcp hcp2 hsz halt sA' hcA
  have hcp' := hcp.set (i := 3) (c := a) (by omega) (by omega) (.int .i64 ((d.ops + 1 : Nat)))
  have hcp2' := hcp2.set (i := 3) (c := a) (by omega) (by omega) (.int .i64 ((d.ops + 1 : Nat)))
  obtain ⟨hD2, _⟩ := h2.setOps (d.ops + 1)
  have hop := operate_any w2 B a mb L F tv d h2 hops htl 47 29 50 #[.pointer (some ⟨b0 + 2, 0, none⟩), .pointer (some ⟨b0 + 3, 0, none⟩)] #[] #[.pointer (some ⟨b0, 0, none⟩), .pointer (some ⟨b0 + 1, 0, none⟩)]
    (refuse d 6 s.data.toList [] 0 []) (fun p => { d with ops := d.ops + 1, fs := part d.fs 6 s.data.toList p [] }) { d with ops := d.ops + 1, fs := act d.fs 6 s.data.toList [] 0 [] }
    (enters_of Tryd.func47 (by kernel_rfl) rfl) (enters_of Tryd.func29 (by kernel_rfl) rfl) (enters_of Tryd.func50 (by kernel_rfl) rfl)
    (fun w1 hb1 => by
      have hD1 := hD2.below (by rw [set_size]; exact hb1)
      have := there1 w1 B a mb L F tv _ hD1 s hs (b0 + 2) (b0 + 3) (hcp2'.below (by omega) (by omega) hb1)
      rw [there_refuse d _ _ _ _ 6 (by decide)]
      exact this)
    (fun w1 p hb1 _ => (nothing_any p w1).mono (by
      rintro e w3 ⟨rfl, rfl⟩
      exact ⟨rfl, St.same (hD2.below (by rw [set_size]; exact hb1))⟩))
    (fun w1 hb1 hc0 => by
      have hD1 := hD2.below (by rw [set_size]; exact hb1)
      rw [there_refuse d _ _ _ _ 6 (by decide)] at hc0
      unfold thereC at hc0
      rw [h.get] at hc0
      cases hg : Dk.get L s.data.toList with
      | none => rw [hg] at hc0; simp at hc0
      | some b => exact delete1 w1 B a mb L F tv _ hD1 s hs b0 (b0 + 1) (hcp'.below (by omega) (by omega) hb1))
  rw [← op_eq] at hop
  have hop' := Lib.hid hop
  have hb2' := Lib.hid hb2
  have hB' := Lib.hid hB
  have hb0' := Lib.hid hb0
  obtain ⟨k1, k2⟩ := hcA
  have hc2 := Lib.hid hcp
  have hwA' := Lib.hid hwA
  have hmf := make_func
  clear hop hcp hcp' hcp2 hcp2' hD2 h2 h hsz hb2 hB sA hw2 hwA
  go_enter Tryd.func41, Tryd.ntmps41
  go_wp2_with fail
  rw [hwA'.out]
  clear hb0
  refine Pl.wp_region_plan 5 (.take 0 (.take 1 (.take 2 (.take 4 (.run 3 .done))))) (fun x => x.cell? ⟨b0, 0, none⟩ = some (.pointer (some ⟨a, 0, none⟩)) ∧ x.cell? ⟨b0 + 1, 0, none⟩ = some (.string s)) (by kernel_rfl) (by kernel_rfl) (by exact ⟨k1, k2⟩) ?_
  simp only [Pl.fill, List.getElem?_cons_zero, List.getElem?_cons_succ, List.drop_succ_cons, List.drop_zero]
  iterate 4
    refine Pl.take_go ?_ (by rfl) (fun _ _ _ h => h) ?_ ?_
    rotate_left
    · (intro x hSw; (try dsimp only at hSw); go_simp; try with_reducible rfl)
    try simp only [Act.put, List.setIfInBounds_toArray, List.set_cons_zero, List.set_cons_succ]
  refine Pl.run_go (fun K hK => ?_)
  go_simp
  refine (there_at a s _ _ _ sA'.out hw2'.out).mono ?_
  rintro e w4 ⟨rfl, rfl⟩
  dsimp only
  refine hK.out _ _ (Pl.more_go _ (fun _ h => h) (by exact ⟨hc2.out.bd, hc2.out.bn⟩) ?_)
  clear hK K
  refine Pl.done_go ?_
  go_wp2_with fail
  refine hop'.out.mono ?_
  rintro e w5 ⟨rfl, hst⟩
  have hst' := Lib.hid hst
  clear hst hmf
  go_wp2_with fail
  go_ret
  exact ⟨rfl, hst'.out.on (hb2'.out.mono (by have := hB'.out; have := hb0'.out; omega)) (Fm.below hb2'.out)⟩

end Go.Proofs.YtjhiihmibleecaaDoor.Dk
