/- Append. -/
import Derived.Test.YtjhiihmibleecaaGreatDoorDkMeth2
section
namespace Go.Proofs.YtjhiihmibleecaaGreatDoor.Dk
open Go.RowKit

/-- Three boxes: the disk, the name, and one thing more. -/
theorem boxes3 (w : World) (a : Nat) (s : ByteArray) (v : Value) (E : TypeId) : ∃ w3, ((w.alloc (.cells #[.pointer (some ⟨a, 0, none⟩)] 27)).alloc (.cells #[.string s] 9)).alloc (.cells #[v] E) = w3 ∧
    Cp w3 w.heap.size (w.heap.size + 1) a s ∧ w3.cell? ⟨w.heap.size + 2, 0, none⟩ = some v ∧ Below w.heap.size w w3 ∧ w3.heap.size = w.heap.size + 3 := by
  refine ⟨_, rfl, ?_⟩
  obtain ⟨c1, b1, s1⟩ := boxes w a s
  generalize (w.alloc (.cells #[.pointer (some ⟨a, 0, none⟩)] 27)).alloc (.cells #[.string s] 9) = wA at *
  have hb := below_alloc wA (.cells #[v] E)
  rw [s1] at hb
  refine ⟨c1.below (N := w.heap.size + 2) (by omega) (by omega) hb, ?_, b1.trans (hb.mono (by omega)), by simp; omega⟩
  rw [← s1]
  simp

set_option maxHeartbeats 2000000 in
set_option maxRecDepth 100000 in
theorem Cut_any (w : World) (B a mb : Nat) (L : Al Nat) (F : Nat → Fl) (tv : Value) (d : D) (h : Da w B a mb L F tv d) (hops : d.ops ≤ 1000000) (htl : d.tr.length ≤ 1000000) (hfl : ∀ p ∈ d.fs, p.2.data.length ≤ 1000000000) (s : ByteArray) (hs : s.size ≤ 1000000) (z : Int) :
    Calls Tryz.prog 32 #[.pointer (some ⟨a, 0, none⟩), .string s, .int .i64 z] w (OpP B a mb tv (op d 3 s.data.toList [] z []) w) := by
  obtain ⟨w2, hw2, hcp, hk3, hb2, hsz⟩ := boxes3 w a s (.int .i64 z) 3
  have halt := h.alt
  have hB := h.base
  have hw2' := Lib.hid hw2
  obtain ⟨b0, hb0⟩ : ∃ b0, w.heap.size = b0 := ⟨_, rfl⟩
  have h2 := h.below hb2
  rw [hb0] at hcp hsz halt hk3
  have hcp' := hcp.set (i := 3) (c := a) (by omega) (by omega) (.int .i64 ((d.ops + 1 : Nat)))
  have hk3' : (w2.setCell ⟨a, 3, none⟩ (.int .i64 ((d.ops + 1 : Nat)))).cell? ⟨b0 + 2, 0, none⟩ = some (.int .i64 z) := (World.cell?_setCell_other _ _ _ _ (by simp <;> omega)).trans hk3
  obtain ⟨hD2, _⟩ := h2.setOps (d.ops + 1)
  have hop := operate_any w2 B a mb L F tv d h2 hops htl 54 43 55 #[.pointer (some ⟨b0, 0, none⟩), .pointer (some ⟨b0 + 1, 0, none⟩), .pointer (some ⟨b0 + 2, 0, none⟩)] #[] #[.pointer (some ⟨b0, 0, none⟩), .pointer (some ⟨b0 + 1, 0, none⟩), .pointer (some ⟨b0 + 2, 0, none⟩)]
    (refuse d 3 s.data.toList [] z []) (fun p => { d with ops := d.ops + 1, fs := part d.fs 3 s.data.toList p [] }) { d with ops := d.ops + 1, fs := act d.fs 3 s.data.toList [] z [] }
    (enters_of Tryz.func54 (by kernel_rfl) rfl) (enters_of Tryz.func43 (by kernel_rfl) rfl) (enters_of Tryz.func55 (by kernel_rfl) rfl)
    (fun w1 hb1 => by
      have hD1 := hD2.below (by rw [set_size]; exact hb1)
      have hk4 : w1.cell? ⟨b0 + 2, 0, none⟩ = _ := (hb1.cell (p := ⟨b0 + 2, 0, none⟩) (by show b0 + 2 < w2.heap.size; omega)).trans hk3'
      have hcb := hcp'.below (N := w2.heap.size) (by omega) (by omega) hb1
      exact cut1 w1 B a mb L F tv _ hD1 s hs b0 (b0 + 1) (b0 + 2) hcb z hk4 [] [])
    (fun w1 p hb1 _ => (nothing_any p w1).mono (by
      rintro e w3 ⟨rfl, rfl⟩
      exact ⟨rfl, St.same (hD2.below (by rw [set_size]; exact hb1))⟩))
    (fun w1 hb1 hc0 => by
      have hD1 := hD2.below (by rw [set_size]; exact hb1)
      have hk4 : w1.cell? ⟨b0 + 2, 0, none⟩ = _ := (hb1.cell (p := ⟨b0 + 2, 0, none⟩) (by show b0 + 2 < w2.heap.size; omega)).trans hk3'
      have hcb := hcp'.below (N := w2.heap.size) (by omega) (by omega) hb1
      unfold refuse at hc0
      rw [if_neg (by decide), h.get] at hc0
      cases hg : Dk.get L s.data.toList with
      | none => rw [hg] at hc0; simp at hc0
      | some b =>
        rw [hg] at hc0
        have hlen := hfl (s.data.toList, F b) (by rw [h.fs]; exact List.mem_map.2 ⟨_, get_mem hg, rfl⟩)
        simp only [Option.map_some] at hc0
        have hz : 0 ≤ z ∧ z ≤ ((F b).data.length : Int) := by
          simp at hc0
          omega
        obtain ⟨m, rfl⟩ := Int.eq_ofNat_of_zero_le hz.1
        exact cut2 w1 B a mb L F tv _ hD1 s hs b0 (b0 + 1) (b0 + 2) hcb m hk4 b hg (by omega) hlen)
  rw [← op_eq] at hop
  have hop' := Lib.hid hop
  have hb2' := Lib.hid hb2
  have hB' := Lib.hid hB
  have hb0' := Lib.hid hb0
  obtain ⟨k1, k2⟩ := hcp
  have hmf := make_func
  clear hop hcp' hk3' hD2 h2 h hsz hb2 hB
  go_enter Tryz.func32, Tryz.ntmps32
  go_wp2_with fail
  refine hop'.out.mono ?_
  rintro e w5 ⟨rfl, hst⟩
  have hst' := Lib.hid hst
  clear hst hmf
  go_wp2_with fail
  go_ret
  exact ⟨rfl, hst'.out.on (hb2'.out.mono (by have := hB'.out; have := hb0'.out; omega)) (Fm.below hb2'.out)⟩

set_option maxHeartbeats 2000000 in
set_option maxRecDepth 100000 in
theorem Rename_any (w : World) (B a mb : Nat) (L : Al Nat) (F : Nat → Fl) (tv : Value) (d : D) (h : Da w B a mb L F tv d) (hops : d.ops ≤ 1000000) (htl : d.tr.length ≤ 1000000) (hfl : d.fs.length ≤ 1000) (s : ByteArray) (hs : s.size ≤ 1000000) (s2 : ByteArray) (hs2 : s2.size ≤ 1000000) :
    Calls Tryz.prog 33 #[.pointer (some ⟨a, 0, none⟩), .string s, .string s2] w (OpP B a mb tv (op d 5 s.data.toList s2.data.toList 0 []) w) := by
  obtain ⟨w2, hw2, hcp, hk3, hb2, hsz⟩ := boxes3 w a s (.string s2) 9
  have halt := h.alt
  have hB := h.base
  have hw2' := Lib.hid hw2
  obtain ⟨b0, hb0⟩ : ∃ b0, w.heap.size = b0 := ⟨_, rfl⟩
  have h2 := h.below hb2
  rw [hb0] at hcp hsz halt hk3
  have hcp' := hcp.set (i := 3) (c := a) (by omega) (by omega) (.int .i64 ((d.ops + 1 : Nat)))
  have hk3' : (w2.setCell ⟨a, 3, none⟩ (.int .i64 ((d.ops + 1 : Nat)))).cell? ⟨b0 + 2, 0, none⟩ = some (.string s2) := (World.cell?_setCell_other _ _ _ _ (by simp <;> omega)).trans hk3
  obtain ⟨hD2, _⟩ := h2.setOps (d.ops + 1)
  have hop := operate_any w2 B a mb L F tv d h2 hops htl 56 43 57 #[.pointer (some ⟨b0, 0, none⟩), .pointer (some ⟨b0 + 1, 0, none⟩), .pointer (some ⟨b0 + 2, 0, none⟩)] #[] #[.pointer (some ⟨b0, 0, none⟩), .pointer (some ⟨b0 + 1, 0, none⟩), .pointer (some ⟨b0 + 2, 0, none⟩)]
    (refuse d 5 s.data.toList s2.data.toList 0 []) (fun p => { d with ops := d.ops + 1, fs := part d.fs 5 s.data.toList p [] }) { d with ops := d.ops + 1, fs := act d.fs 5 s.data.toList s2.data.toList 0 [] }
    (enters_of Tryz.func56 (by kernel_rfl) rfl) (enters_of Tryz.func43 (by kernel_rfl) rfl) (enters_of Tryz.func57 (by kernel_rfl) rfl)
    (fun w1 hb1 => by
      have hD1 := hD2.below (by rw [set_size]; exact hb1)
      have hk4 : w1.cell? ⟨b0 + 2, 0, none⟩ = _ := (hb1.cell (p := ⟨b0 + 2, 0, none⟩) (by show b0 + 2 < w2.heap.size; omega)).trans hk3'
      have hcb := hcp'.below (N := w2.heap.size) (by omega) (by omega) hb1
      exact rename1 w1 B a mb L F tv _ hD1 s s2 hs hs2 b0 (b0 + 1) (b0 + 2) hcb ⟨hcb.bd, hk4⟩ 0 [])
    (fun w1 p hb1 _ => (nothing_any p w1).mono (by
      rintro e w3 ⟨rfl, rfl⟩
      exact ⟨rfl, St.same (hD2.below (by rw [set_size]; exact hb1))⟩))
    (fun w1 hb1 hc0 => by
      have hD1 := hD2.below (by rw [set_size]; exact hb1)
      have hk4 : w1.cell? ⟨b0 + 2, 0, none⟩ = _ := (hb1.cell (p := ⟨b0 + 2, 0, none⟩) (by show b0 + 2 < w2.heap.size; omega)).trans hk3'
      have hcb := hcp'.below (N := w2.heap.size) (by omega) (by omega) hb1
      unfold refuse at hc0
      rw [if_neg (by decide), h.get] at hc0
      cases hg : Dk.get L s.data.toList with
      | none => rw [hg] at hc0; simp at hc0
      | some b =>
        rw [hg] at hc0
        have hgd : Dk.get d.fs s.data.toList = some (F b) := by rw [h.get, hg]; rfl
        have := rename2 w1 B a mb L F tv _ hD1 s s2 hs hs2 b0 (b0 + 1) (b0 + 2) hcb ⟨hcb.bd, hk4⟩ b hg hfl
        unfold act
        rw [hgd]
        exact this)
  rw [← op_eq] at hop
  have hop' := Lib.hid hop
  have hb2' := Lib.hid hb2
  have hB' := Lib.hid hB
  have hb0' := Lib.hid hb0
  obtain ⟨k1, k2⟩ := hcp
  have hmf := make_func
  clear hop hcp' hk3' hD2 h2 h hsz hb2 hB
  go_enter Tryz.func33, Tryz.ntmps33
  go_wp2_with fail
  refine hop'.out.mono ?_
  rintro e w5 ⟨rfl, hst⟩
  have hst' := Lib.hid hst
  clear hst hmf
  go_wp2_with fail
  go_ret
  exact ⟨rfl, hst'.out.on (hb2'.out.mono (by have := hB'.out; have := hb0'.out; omega)) (Fm.below hb2'.out)⟩
end Go.Proofs.YtjhiihmibleecaaGreatDoor.Dk
end

section
namespace Go.Proofs.YtjhiihmibleecaaGreatDoor.Dk
open Go.RowKit

/-- The variable put, laid behind the boxes. -/
theorem boxPut (w2 : World) (b0 : Nat) (fv : Value) (hsz : w2.heap.size = b0 + 3) : ∃ w3 w4, w2.alloc (.cells #[.nilFunc] 79) = w3 ∧ w3.setCell ⟨b0 + 3, 0, none⟩ fv = w4 ∧ w3.frozen? ⟨b0 + 3, 0, none⟩ = false ∧ w3.cell? ⟨b0 + 3, 0, none⟩ = some .nilFunc ∧
    Below w2.heap.size w2 w4 ∧ w4.cell? ⟨b0 + 3, 0, none⟩ = some fv ∧ w4.heap.size = b0 + 4 := by
  refine ⟨_, _, rfl, rfl, ?_⟩
  have hn := heap_alloc_new w2 (.cells #[.nilFunc] 79)
  rw [hsz] at hn
  have hc : (w2.alloc (.cells #[.nilFunc] 79)).cell? ⟨b0 + 3, 0, none⟩ = some .nilFunc := by simp [World.cell?, hn]
  refine ⟨frozen_of_row _ (b0 + 3) 0 _ _ hn, hc, ?_, ?_, ?_⟩
  · have := below_alloc w2 (.cells #[.nilFunc] 79)
    exact Below.setCell this (by show w2.heap.size ≤ b0 + 3; omega) _
  · exact World.cell?_setCell_same (w := w2.alloc (.cells #[.nilFunc] 79)) (a := ⟨b0 + 3, 0, none⟩) (v := fv) hc
  · rw [set_size]; simp; omega

theorem run_store_fn (a : Addr) (fn : Fn) (f c : Array Value) (w : World) : (store a (.func fn f c)).run Tryz.prog w = stored Tryz.prog w a (.func fn f c) .plain := run_store _ w a _ _ rfl

theorem len_le_used : ∀ {fs : Fs} {p : Name × Fl}, p ∈ fs → p.2.data.length ≤ used fs
  | [], p, h => by cases h
  | q :: r, p, h => by
    rw [used_cons]
    rcases List.mem_cons.1 h with rfl | h
    · omega
    · have := len_le_used h; omega

/-- A cell of another kind is stored to: bytes are as they were. -/
theorem bs_set_int {w : World} {A : Option Addr} {n c : Nat} {l : List UInt8} {p : Addr} {z : Int} (hp : w.cell? p = some (.int .i64 z)) (h : Bs w A n c l) (x : Value) : Bs (w.setCell p x) A n c l :=
  ⟨Rd.len h, Rd.le h, Rd.max h, Rd.nil h, fun hn => by
    obtain ⟨b, off, e, hb, hc⟩ := Rd.cell h hn
    refine ⟨b, off, e, by rw [set_size]; exact hb, fun j u hu => (World.cell?_setCell_other _ _ _ _ fun ep => ?_).trans (hc j u hu)⟩
    have hc' := hc j u hu
    obtain ⟨y, _, rfl⟩ := bv_get hu
    rw [← ep, hp] at hc'
    injection hc' with hc'
    cases hc'⟩

set_option maxHeartbeats 2000000 in
set_option maxRecDepth 100000 in
theorem Append_any (w : World) (B a mb : Nat) (L : Al Nat) (F : Nat → Fl) (tv : Value) (d : D) (h : Da w B a mb L F tv d) (hops : d.ops ≤ 1000000) (htl : d.tr.length ≤ 1000000) (s : ByteArray) (hs : s.size ≤ 1000000)
    (A : Option Addr) (n c : Nat) (l : List UInt8) (hBs : Bs w A n c l) (hn : n ≤ 1000000) (hu : used d.fs ≤ 1000000000) (hroom : d.room ≤ 9223372036854775807) :
    Calls Tryz.prog 23 #[.pointer (some ⟨a, 0, none⟩), .string s, .slice A n c] w (OpP B a mb tv (op d 2 s.data.toList [] 0 l) w) := by
  obtain ⟨w2, hw2, hcp2, hk2, hb2, hsz2⟩ := boxes3 w a s (.slice A n c) 35
  have halt := h.alt
  have hB := h.base
  obtain ⟨b0, hb0⟩ : ∃ b0, w.heap.size = b0 := ⟨_, rfl⟩
  rw [hb0] at hcp2 hsz2 halt hk2
  obtain ⟨w3, w4, hw3, hw4, hf3, hc3, hb4, hp4, hsz⟩ := boxPut w2 b0 (.func (.func 45) #[] #[.pointer (some ⟨b0, 0, none⟩), .pointer (some ⟨b0 + 1, 0, none⟩), .pointer (some ⟨b0 + 1 + 1, 0, none⟩)]) hsz2
  have hb24 : Below w.heap.size w w4 := hb2.trans (hb4.mono (by omega))
  have h2 := h.below hb24
  have hcp := hcp2.below (N := w2.heap.size) (by omega) (by omega) hb4
  have hk3 : w4.cell? ⟨b0 + 2, 0, none⟩ = some (.slice A n c) := (hb4.cell (p := ⟨b0 + 2, 0, none⟩) (by show b0 + 2 < w2.heap.size; omega)).trans hk2
  have hcp' := hcp.set (i := 3) (c := a) (by omega) (by omega) (.int .i64 ((d.ops + 1 : Nat)))
  have hk3' : (w4.setCell ⟨a, 3, none⟩ (.int .i64 ((d.ops + 1 : Nat)))).cell? ⟨b0 + 2, 0, none⟩ = some (.slice A n c) := (World.cell?_setCell_other _ _ _ _ (by simp <;> omega)).trans hk3
  have hp4' : (w4.setCell ⟨a, 3, none⟩ (.int .i64 ((d.ops + 1 : Nat)))).cell? ⟨b0 + 3, 0, none⟩ = _ := (World.cell?_setCell_other _ _ _ _ (by simp <;> omega)).trans hp4
  obtain ⟨hD2, _⟩ := h2.setOps (d.ops + 1)
  have hl : l.length = n := hBs.len
  have hBs4 : ∀ w1, Below w4.heap.size (w4.setCell ⟨a, 3, none⟩ (.int .i64 ((d.ops + 1 : Nat)))) w1 → Bs w1 A n c l := fun w1 hb1 => by
    have h1 := hBs.below hb24
    have h2 : Bs (w4.setCell ⟨a, 3, none⟩ (.int .i64 ((d.ops + 1 : Nat)))) A n c l := bs_set_int (z := (d.ops : Nat)) (by simp [World.cell?, h2.blk]) h1 _
    exact h2.below (by rw [set_size]; exact hb1)
  have hop := operate_any w4 B a mb L F tv d h2 hops htl 47 48 49 #[.pointer (some ⟨b0, 0, none⟩), .pointer (some ⟨b0 + 1, 0, none⟩), .pointer (some ⟨b0 + 2, 0, none⟩)] #[.pointer (some ⟨b0 + 3, 0, none⟩), .pointer (some ⟨b0 + 2, 0, none⟩)] #[.pointer (some ⟨b0 + 3, 0, none⟩), .pointer (some ⟨b0 + 2, 0, none⟩)]
    (refuse d 2 s.data.toList [] 0 l) (fun p => { d with ops := d.ops + 1, fs := part d.fs 2 s.data.toList p l }) { d with ops := d.ops + 1, fs := act d.fs 2 s.data.toList [] 0 l }
    (enters_of Tryz.func47 (by kernel_rfl) rfl) (enters_of Tryz.func48 (by kernel_rfl) rfl) (enters_of Tryz.func49 (by kernel_rfl) rfl)
    (fun w1 hb1 => by
      have hD1 := hD2.below (by rw [set_size]; exact hb1)
      have hk4 : w1.cell? ⟨b0 + 2, 0, none⟩ = _ := (hb1.cell (p := ⟨b0 + 2, 0, none⟩) (by show b0 + 2 < w4.heap.size; omega)).trans hk3'
      have hcb := hcp'.below (N := w4.heap.size) (by omega) (by omega) hb1
      exact append2 w1 B a mb L F tv _ hD1 s hs b0 (b0 + 1) (b0 + 2) hcb A n c l hl hk4 hn hu hroom 0 [])
    (fun w1 p hb1 hc0 => by
      have hD1 := hD2.below (by rw [set_size]; exact hb1)
      have hk4 : w1.cell? ⟨b0 + 2, 0, none⟩ = _ := (hb1.cell (p := ⟨b0 + 2, 0, none⟩) (by show b0 + 2 < w4.heap.size; omega)).trans hk3'
      have hp5 : w1.cell? ⟨b0 + 3, 0, none⟩ = _ := (hb1.cell (p := ⟨b0 + 3, 0, none⟩) (by show b0 + 3 < w4.heap.size; omega)).trans hp4'
      have hcb := hcp'.below (N := w4.heap.size) (by omega) (by omega) hb1
      unfold refuse at hc0
      rw [if_neg (by decide), h.get] at hc0
      cases hg : Dk.get L s.data.toList with
      | none => rw [hg] at hc0; simp at hc0
      | some b =>
        have hlen := len_le_used (fs := d.fs) (p := (s.data.toList, F b)) (by rw [h.fs]; exact List.mem_map.2 ⟨_, get_mem hg, rfl⟩)
        exact append3 w1 B a mb L F tv _ hD1 s hs b0 (b0 + 1) (b0 + 2) (b0 + 3) hcb hp5 A n c l hk4 (hBs4 w1 hb1) hn b hg (by simp only at hlen; omega) p)
    (fun w1 hb1 hc0 => by
      have hD1 := hD2.below (by rw [set_size]; exact hb1)
      have hk4 : w1.cell? ⟨b0 + 2, 0, none⟩ = _ := (hb1.cell (p := ⟨b0 + 2, 0, none⟩) (by show b0 + 2 < w4.heap.size; omega)).trans hk3'
      have hp5 : w1.cell? ⟨b0 + 3, 0, none⟩ = _ := (hb1.cell (p := ⟨b0 + 3, 0, none⟩) (by show b0 + 3 < w4.heap.size; omega)).trans hp4'
      have hcb := hcp'.below (N := w4.heap.size) (by omega) (by omega) hb1
      unfold refuse at hc0
      rw [if_neg (by decide), h.get] at hc0
      cases hg : Dk.get L s.data.toList with
      | none => rw [hg] at hc0; simp at hc0
      | some b =>
        have hlen := len_le_used (fs := d.fs) (p := (s.data.toList, F b)) (by rw [h.fs]; exact List.mem_map.2 ⟨_, get_mem hg, rfl⟩)
        exact append4 w1 B a mb L F tv _ hD1 s hs b0 (b0 + 1) (b0 + 2) (b0 + 3) hcb hp5 A n c l hk4 (hBs4 w1 hb1) hn b hg (by simp only at hlen; omega))
  rw [← op_eq] at hop
  have hop' := Lib.hid hop
  have hb2' := Lib.hid hb24
  have hB' := Lib.hid hB
  have hb0' := Lib.hid hb0
  obtain ⟨k1, k2⟩ := hcp
  have hmf := make_func
  have hsf := run_store_fn
  clear hop hcp' hk3' hp4' hD2 h2 h hsz hb2 hB hBs4 hb24 hcp2 hk2 hl
  go_enter Tryz.func23, Tryz.ntmps23
  go_wp2_with fail
  refine hop'.out.mono ?_
  rintro e w5 ⟨rfl, hst⟩
  have hst' := Lib.hid hst
  clear hst hmf hsf
  go_wp2_with fail
  go_ret
  exact ⟨rfl, hst'.out.on (hb2'.out.mono (by have := hB'.out; have := hb0'.out; omega)) (Fm.below hb2'.out)⟩
end Go.Proofs.YtjhiihmibleecaaGreatDoor.Dk
end
