/- Cut and Rename. -/
import Derived.Test.YtjhiihmibleecaaDoorDkMeth2
namespace Go.Proofs.YtjhiihmibleecaaDoor.Dk
open Go.RowKit

/-- Three boxes: the disk, the name, and one thing more. -/
theorem boxes3 (w : World) (a : Nat) (s : ByteArray) (v : Value) (E : TypeId) : ∃ w3, ((w.alloc (.cells #[.pointer (some ⟨a, 0, none⟩)] 25)).alloc (.cells #[.string s] 9)).alloc (.cells #[v] E) = w3 ∧
    Cp w3 w.heap.size (w.heap.size + 1) a s ∧ w3.cell? ⟨w.heap.size + 2, 0, none⟩ = some v ∧ Below w.heap.size w w3 ∧ w3.heap.size = w.heap.size + 3 := by
  refine ⟨_, rfl, ?_⟩
  obtain ⟨c1, b1, s1⟩ := boxes w a s
  generalize (w.alloc (.cells #[.pointer (some ⟨a, 0, none⟩)] 25)).alloc (.cells #[.string s] 9) = wA at *
  have hb := below_alloc wA (.cells #[v] E)
  rw [s1] at hb
  refine ⟨c1.below (N := w.heap.size + 2) (by omega) (by omega) hb, ?_, b1.trans (hb.mono (by omega)), by simp; omega⟩
  rw [← s1]
  simp

set_option maxHeartbeats 2000000 in
set_option maxRecDepth 100000 in
theorem Cut_any (w : World) (B a mb : Nat) (L : Al Nat) (F : Nat → Fl) (tv : Value) (d : D) (h : Da w B a mb L F tv d) (hops : d.ops ≤ 1000000) (htl : d.tr.length ≤ 1000000) (hfl : ∀ p ∈ d.fs, p.2.data.length ≤ 1000000000) (s : ByteArray) (hs : s.size ≤ 1000000) (z : Int) :
    Calls Tryd.prog 40 #[.pointer (some ⟨a, 0, none⟩), .string s, .int .i64 z] w (OpP B a mb tv (op d 3 s.data.toList [] z []) w) := by
  obtain ⟨w2, hw2, hcp, hk3, hb2, hsz⟩ := boxes3 w a s (.int .i64 z) 3
  have halt := h.alt
  have hB := h.base
  have hw2' := Lib.hid hw2
  obtain ⟨b0, hb0⟩ : ∃ b0, w.heap.size = b0 := ⟨_, rfl⟩
  have h2 := h.below hb2
  rw [hb0] at hcp hsz halt hk3
  have hcp' := hcp.set (i := 3) (c := a) (by omega) (by omega) (.int .i64 ((d.ops + 1 : Nat)))
  have hk3' : (w2.setCell ⟨a, 3, none⟩ (.int .i64 ((d.ops + 1 : Nat)))).cell? ⟨b0 + 2, 0, none⟩ = some (.int .i64 z) := (World.cell?_setCell_other _ _ _ _ (by simp <;> omega)).trans hk3
  obtain ⟨hD2, _⟩ := h2.setOps (d.ops + 1)
  have hop := operate_any w2 B a mb L F tv d h2 hops htl 48 29 49 #[.pointer (some ⟨b0, 0, none⟩), .pointer (some ⟨b0 + 1, 0, none⟩), .pointer (some ⟨b0 + 2, 0, none⟩)] #[] #[.pointer (some ⟨b0, 0, none⟩), .pointer (some ⟨b0 + 1, 0, none⟩), .pointer (some ⟨b0 + 2, 0, none⟩)]
    (refuse d 3 s.data.toList [] z []) (fun p => { d with ops := d.ops + 1, fs := part d.fs 3 s.data.toList p [] }) { d with ops := d.ops + 1, fs := act d.fs 3 s.data.toList [] z [] }
    (enters_of Tryd.func48 (by kernel_rfl) rfl) (enters_of Tryd.func29 (by kernel_rfl) rfl) (enters_of Tryd.func49 (by kernel_rfl) rfl)
    (fun w1 hb1 => by
      have hD1 := hD2.below (by rw [set_size]; exact hb1)
      have hk4 : w1.cell? ⟨b0 + 2, 0, none⟩ = _ := (hb1.cell (p := ⟨b0 + 2, 0, none⟩) (by show b0 + 2 < w2.heap.size; omega)).trans hk3'
      have hcb := hcp'.below (N := w2.heap.size) (by omega) (by omega) hb1
      exact cut1 w1 B a mb L F tv _ hD1 s hs b0 (b0 + 1) (b0 + 2) hcb z hk4 [] [])
    (fun w1 p hb1 _ => (nothing_any p w1).mono (by
      rintro e w3 ⟨rfl, rfl⟩
      exact ⟨rfl, St.same (hD2.below (by rw [set_size]; exact hb1))⟩))
    (fun w1 hb1 hc0 => by
      have hD1 := hD2.below (by rw [set_size]; exact hb1)
      have hk4 : w1.cell? ⟨b0 + 2, 0, none⟩ = _ := (hb1.cell (p := ⟨b0 + 2, 0, none⟩) (by show b0 + 2 < w2.heap.size; omega)).trans hk3'
      have hcb := hcp'.below (N := w2.heap.size) (by omega) (by omega) hb1
      unfold refuse at hc0
      rw [if_neg (by decide), h.get] at hc0
      cases hg : Dk.get L s.data.toList with
      | none => rw [hg] at hc0; simp at hc0
      | some b =>
        rw [hg] at hc0
        have hlen := hfl (s.data.toList, F b) (by rw [h.fs]; exact List.mem_map.2 ⟨_, get_mem hg, rfl⟩)
        simp only [Option.map_some] at hc0
        have hz : 0 ≤ z ∧ z ≤ ((F b).data.length : Int) := by
          simp at hc0
          omega
        obtain ⟨m, rfl⟩ := Int.eq_ofNat_of_zero_le hz.1
        exact cut2 w1 B a mb L F tv _ hD1 s hs b0 (b0 + 1) (b0 + 2) hcb m hk4 b hg (by omega) hlen)
  rw [← op_eq] at hop
  have hop' := Lib.hid hop
  have hb2' := Lib.hid hb2
  have hB' := Lib.hid hB
  have hb0' := Lib.hid hb0
  obtain ⟨k1, k2⟩ := hcp
  have hmf := make_func
  clear hop hcp' hk3' hD2 h2 h hsz hb2 hB
  go_enter Tryd.func40, Tryd.ntmps40
  go_wp2_with fail
  refine hop'.out.mono ?_
  rintro e w5 ⟨rfl, hst⟩
  have hst' := Lib.hid hst
  clear hst hmf
  go_wp2_with fail
  go_ret
  exact ⟨rfl, hst'.out.on (hb2'.out.mono (by have := hB'.out; have := hb0'.out; omega)) (Fm.below hb2'.out)⟩

set_option maxHeartbeats 2000000 in
set_option maxRecDepth 100000 in
theorem Rename_any (w : World) (B a mb : Nat) (L : Al Nat) (F : Nat → Fl) (tv : Value) (d : D) (h : Da w B a mb L F tv d) (hops : d.ops ≤ 1000000) (htl : d.tr.length ≤ 1000000) (hfl : d.fs.length ≤ 1000) (s : ByteArray) (hs : s.size ≤ 1000000) (s2 : ByteArray) (hs2 : s2.size ≤ 1000000) :
    Calls Tryd.prog 12 #[.pointer (some ⟨a, 0, none⟩), .string s, .string s2] w (OpP B a mb tv (op d 5 s.data.toList s2.data.toList 0 []) w) := by
  obtain ⟨w2, hw2, hcp, hk3, hb2, hsz⟩ := boxes3 w a s (.string s2) 9
  have halt := h.alt
  have hB := h.base
  have hw2' := Lib.hid hw2
  obtain ⟨b0, hb0⟩ : ∃ b0, w.heap.size = b0 := ⟨_, rfl⟩
  have h2 := h.below hb2
  rw [hb0] at hcp hsz halt hk3
  have hcp' := hcp.set (i := 3) (c := a) (by omega) (by omega) (.int .i64 ((d.ops + 1 : Nat)))
  have hk3' : (w2.setCell ⟨a, 3, none⟩ (.int .i64 ((d.ops + 1 : Nat)))).cell? ⟨b0 + 2, 0, none⟩ = some (.string s2) := (World.cell?_setCell_other _ _ _ _ (by simp <;> omega)).trans hk3
  obtain ⟨hD2, _⟩ := h2.setOps (d.ops + 1)
  have hop := operate_any w2 B a mb L F tv d h2 hops htl 27 29 30 #[.pointer (some ⟨b0, 0, none⟩), .pointer (some ⟨b0 + 1, 0, none⟩), .pointer (some ⟨b0 + 2, 0, none⟩)] #[] #[.pointer (some ⟨b0, 0, none⟩), .pointer (some ⟨b0 + 1, 0, none⟩), .pointer (some ⟨b0 + 2, 0, none⟩)]
    (refuse d 5 s.data.toList s2.data.toList 0 []) (fun p => { d with ops := d.ops + 1, fs := part d.fs 5 s.data.toList p [] }) { d with ops := d.ops + 1, fs := act d.fs 5 s.data.toList s2.data.toList 0 [] }
    (enters_of Tryd.func27 (by kernel_rfl) rfl) (enters_of Tryd.func29 (by kernel_rfl) rfl) (enters_of Tryd.func30 (by kernel_rfl) rfl)
    (fun w1 hb1 => by
      have hD1 := hD2.below (by rw [set_size]; exact hb1)
      have hk4 : w1.cell? ⟨b0 + 2, 0, none⟩ = _ := (hb1.cell (p := ⟨b0 + 2, 0, none⟩) (by show b0 + 2 < w2.heap.size; omega)).trans hk3'
      have hcb := hcp'.below (N := w2.heap.size) (by omega) (by omega) hb1
      exact rename1 w1 B a mb L F tv _ hD1 s s2 hs hs2 b0 (b0 + 1) (b0 + 2) hcb ⟨hcb.bd, hk4⟩ 0 [])
    (fun w1 p hb1 _ => (nothing_any p w1).mono (by
      rintro e w3 ⟨rfl, rfl⟩
      exact ⟨rfl, St.same (hD2.below (by rw [set_size]; exact hb1))⟩))
    (fun w1 hb1 hc0 => by
      have hD1 := hD2.below (by rw [set_size]; exact hb1)
      have hk4 : w1.cell? ⟨b0 + 2, 0, none⟩ = _ := (hb1.cell (p := ⟨b0 + 2, 0, none⟩) (by show b0 + 2 < w2.heap.size; omega)).trans hk3'
      have hcb := hcp'.below (N := w2.heap.size) (by omega) (by omega) hb1
      unfold refuse at hc0
      rw [if_neg (by decide), h.get] at hc0
      cases hg : Dk.get L s.data.toList with
      | none => rw [hg] at hc0; simp at hc0
      | some b =>
        rw [hg] at hc0
        have hgd : Dk.get d.fs s.data.toList = some (F b) := by rw [h.get, hg]; rfl
        have := rename2 w1 B a mb L F tv _ hD1 s s2 hs hs2 b0 (b0 + 1) (b0 + 2) hcb ⟨hcb.bd, hk4⟩ b hg hfl
        unfold act
        rw [hgd]
        exact this)
  rw [← op_eq] at hop
  have hop' := Lib.hid hop
  have hb2' := Lib.hid hb2
  have hB' := Lib.hid hB
  have hb0' := Lib.hid hb0
  obtain ⟨k1, k2⟩ := hcp
  have hmf := make_func
  clear hop hcp' hk3' hD2 h2 h hsz hb2 hB
  go_enter Tryd.func12, Tryd.ntmps12
  go_wp2_with fail
  refine hop'.out.mono ?_
  rintro e w5 ⟨rfl, hst⟩
  have hst' := Lib.hid hst
  clear hst hmf
  go_wp2_with fail
  go_ret
  exact ⟨rfl, hst'.out.on (hb2'.out.mono (by have := hB'.out; have := hb0'.out; omega)) (Fm.below hb2'.out)⟩
end Go.Proofs.YtjhiihmibleecaaDoor.Dk
