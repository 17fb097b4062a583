/- Append's closures. -/
import Derived.Test.YtjhiihmibleecaaGreatDoorDkConcat
import Derived.Deep.RegionWith
import Derived.Deep.RegionHeld3
namespace Go.Proofs.YtjhiihmibleecaaGreatDoor.Dk
open Go.RowKit

theorem Cp.lt1 {w : World} {bd bn a : Nat} {s : ByteArray} (h : Cp w bd bn a s) : bd < w.heap.size := by
  rcases Nat.lt_or_ge bd w.heap.size with h1 | h1
  · exact h1
  · have := h.bd
    simp [World.cell?, Array.getElem?_eq_none h1] at this
theorem Cp.lt2 {w : World} {bd bn a : Nat} {s : ByteArray} (h : Cp w bd bn a s) : bn < w.heap.size := by
  rcases Nat.lt_or_ge bn w.heap.size with h1 | h1
  · exact h1
  · have := h.bn
    simp [World.cell?, Array.getElem?_eq_none h1] at this
theorem cell_lt {w : World} {p : Addr} {v : Value} (h : w.cell? p = some v) : p.block < w.heap.size := by
  rcases Nat.lt_or_ge p.block w.heap.size with h1 | h1
  · exact h1
  · simp [World.cell?, Array.getElem?_eq_none h1] at h

/-- The file of a name, its slice. -/
theorem Da.file {w : World} {B a mb : Nat} {L : Al Nat} {F : Nat → Fl} {tv : Value} {d : D} (h : Da w B a mb L F tv d) {nm : Name} {b : Nat} (hg : Dk.get L nm = some b) :
    B ≤ b ∧ b < w.heap.size ∧ ∃ A c, w.heap[b]? = some (.cells #[.slice A (F b).data.length c, .int .i64 ((F b).safe : Nat)] 65) ∧ Bs w A (F b).data.length c (F b).data := by
  have hm := get_mem hg
  have hlt := (h.files _ hm).lt
  obtain ⟨hB, v, h1, h2⟩ := h.files _ hm
  obtain ⟨A, c, rfl, hbs⟩ := OwB.slice h2
  exact ⟨hB, hlt, A, c, h1, hbs⟩

theorem file_noE {w : World} {b : Nat} {cs : Array Value} {E : TypeId} (h : w.heap[b]? = some (.cells cs 65)) (hE : E ≠ 65) : NoE E w (some b) :=
  NoE.of h (by intro cs fr e; injection e with _ e2 _; exact hE e2.symm)
theorem file_fm {w : World} {b i : Nat} {cs : Array Value} (h : w.heap[b]? = some (.cells cs 65)) (x : Value) : Fm w (w.setCell ⟨b, i, none⟩ x) :=
  Fm.grown (grown_set w ⟨b, i, none⟩ x) (fun cs E fr he => by rw [h] at he; injection he with he; injection he with _ he _; exact .inl he.symm)

/-- A file's bytes are others. -/
theorem store_data {W : World} {B a mb : Nat} {L : Al Nat} {F : Nat → Fl} {tv : Value} {d : D} (h : Da W B a mb L F tv d) {nm : Name} {b : Nat} (hg : Dk.get L nm = some b) {v2 : Value} {new : List UInt8} (ho : OwB W B 5 v2 new) {g : Fl → Fl} (hgf : g (F b) = ⟨new, (F b).safe⟩) :
    St B a mb tv { d with fs := upd nm g d.fs } W (W.setCell ⟨b, 0, none⟩ v2) := by
  obtain ⟨hB, hlt, A, c, hb, _⟩ := h.file hg
  refine ⟨below_row (grown_set W ⟨b, 0, none⟩ v2) hB (by omega), file_fm hb v2, L, _, h.setF (get_mem hg) (grown_set W ⟨b, 0, none⟩ v2) (v' := v2) ?_ ?_⟩
  · rw [hgf]
    exact setCell_blk hb v2
  · rw [hgf]
    exact row_kept ho (grown_set W ⟨b, 0, none⟩ v2) (file_noE hb (by decide))
theorem store_safe {W : World} {B a mb : Nat} {L : Al Nat} {F : Nat → Fl} {tv : Value} {d : D} (h : Da W B a mb L F tv d) {nm : Name} {b : Nat} (hg : Dk.get L nm = some b) (n : Nat) {g : Fl → Fl} (hgf : g (F b) = ⟨(F b).data, n⟩) :
    St B a mb tv { d with fs := upd nm g d.fs } W (W.setCell ⟨b, 1, none⟩ (.int .i64 (n : Nat))) := by
  obtain ⟨hB, v, hb, ho⟩ := h.files _ (get_mem hg)
  have hlt := (h.files _ (get_mem hg)).lt
  refine ⟨below_row (grown_set W ⟨b, 1, none⟩ _) hB (by omega), file_fm hb _, L, _, h.setF (get_mem hg) (grown_set W ⟨b, 1, none⟩ _) (v' := v) ?_ ?_⟩
  · rw [hgf]
    exact setCell_blk hb _
  · rw [hgf]
    exact row_kept ho (grown_set W ⟨b, 1, none⟩ _) (file_noE hb (by decide))

set_option maxHeartbeats 1000000 in
set_option maxRecDepth 100000 in
theorem append1 (w : World) (B a mb : Nat) (L : Al Nat) (F : Nat → Fl) (tv : Value) (d : D) (h : Da w B a mb L F tv d) (s : ByteArray) (hs : s.size ≤ 1000000) (bd bn bb : Nat) (hc : Cp w bd bn a s)
    (A : Option Addr) (n c : Nat) (l : List UInt8) (kb : w.cell? ⟨bb, 0, none⟩ = some (.slice A n c)) (hBs : Bs w A n c l) (hn : n ≤ 1000000) (m : Nat) (hm : m ≤ n) (b : Nat) (hg : Dk.get L s.data.toList = some b) (hfl : (F b).data.length ≤ 1000000000) :
    Calls Tryz.prog 45 #[.int .i64 (m : Nat), .pointer (some ⟨bd, 0, none⟩), .pointer (some ⟨bn, 0, none⟩), .pointer (some ⟨bb, 0, none⟩)] w
      fun e w' => e = .returned (.tuple #[]) ∧ St B a mb tv { d with fs := upd s.data.toList (fun f => ⟨f.data ++ l.take m, f.safe⟩) d.fs } w w' := by
  obtain ⟨k1, k2⟩ := hc
  have c1 := h.c1
  have hlk := fun q => (h.below (Joins.below_draws _ w q)).look s (by unfold maxLen; omega)
  rw [hg] at hlk
  simp only [Option.map_some] at hlk
  obtain ⟨hBb, hblt, A0, c0, hfb, hfs⟩ := h.file hg
  have lt3 := cell_lt kb
  have h' := Lib.hid h
  have hg' := Lib.hid hg
  have hfb' := Lib.hid hfb
  have hfs' := Lib.hid hfs
  have hBs' := Lib.hid hBs
  obtain ⟨N, hN⟩ : ∃ N, (F b).data.length = N := ⟨_, rfl⟩
  rw [hN] at hfl hfb' hfs'
  have kf : w.cell? ⟨b, 0, none⟩ = some (.slice A0 N c0) := by simp [World.cell?, hfb'.out]
  clear h hg hfb hfs hBs
  go_enter Tryz.func45, Tryz.ntmps45
  go_wp2_with fail
  go_big_quiet (fail)
  have hbq : Below w.heap.size w (w.drewN nq) := Joins.below_draws _ w nq
  have hD1 := Lib.hid (h'.out.below hbq)
  have hfb1 := Lib.hid ((hbq.block b hblt).trans hfb'.out)
  have hfs1 := Lib.hid (hfs'.out.below hbq)
  have hBs1 := Lib.hid (hBs'.out.below hbq)
  have hbq' := Lib.hid hbq
  have kf1 := (hbq.cell (p := ⟨b, 0, none⟩) hblt).trans kf
  have kb1 := (hbq.cell (p := ⟨bb, 0, none⟩) lt3).trans kb
  have hs1 : (w.drewN nq).heap.size = w.heap.size := by simp
  generalize w.drewN nq = w1 at hbq hD1 hfb1 hfs1 hBs1 hbq' kf1 kb1 hs1 ⊢
  clear hbq kf kb k1 k2 c1 hlk
  have hnc := Rd.le hBs1.out
  have q1 : 0 ≤ (m : Int) ∧ (m : Int) ≤ (c : Int) := ⟨by omega, by omega⟩
  have q2 : (m : Int) ≤ (c : Int) := by omega
  have q3 : m ≤ c := by omega
  have hcut := hBs1.out.cut 0 m (by omega) hm A (by intro b off e _; rw [e]; rfl) (fun e => e) (fun e => e)
  rw [Nat.sub_zero, Nat.sub_zero, List.drop_zero] at hcut
  have hcut' := Lib.hid hcut
  clear hcut
  have hcl : (cat [(F b).data, l.take m]).length ≤ 140737488355328 := by simp [cat]; omega
  have hcat : cat [(F b).data, l.take m] = (F b).data ++ l.take m := by simp [cat]
  have hcl' := Lib.hid hcl
  have hcat' := Lib.hid hcat
  have hblt1 : b < w1.heap.size := by omega
  clear hcl hcat
  have hal := bD (below_alloc w1 (.cells #[.slice A0 N c0, .slice A m c] 35))
  have hcon : Calls Tryz.prog 46 #[.slice (some ⟨w1.heap.size, 0, none⟩) 2 2] (w1.alloc (.cells #[.slice A0 N c0, .slice A m c] 35)).drew fun e w2 => ∃ A2 c2, e = .returned (.slice A2 (cat [(F b).data, l.take m]).length c2) ∧
      Hid (OwB w2 w1.heap.size 5 (.slice A2 (cat [(F b).data, l.take m]).length c2) (cat [(F b).data, l.take m])) ∧ Hid (Below w1.heap.size w1 w2) ∧ w2.cell? ⟨b, 0, none⟩ = some (.slice A0 N c0) ∧ w2.frozen? ⟨b, 0, none⟩ = false := by
    refine (concat_any _ 2 2 [(F b).data, l.take m] _ ((bsl_lit2 w1 35 _ _ _ _ _ _ _ _ hfs1.out hcut'.out).below (Joins.below_draws _ _ 1)) hcl'.out).mono ?_
    rintro e w2 ⟨A2, c2, rfl, ho, hb2⟩
    have hb3 := hal.trans (hb2.mono hal.size)
    have hfb2 := (hb3.block b hblt1).trans hfb1.out
    exact ⟨A2, c2, rfl, Lib.hid (OwB.base ho hal.size), Lib.hid hb3, (hb3.cell (p := ⟨b, 0, none⟩) hblt1).trans kf1, frozen_of_row w2 b 0 _ _ hfb2⟩
  have hcon' := Lib.hid hcon
  clear hal hcon hs1
  go_wp2_with fail
  go_region_with (go_at_call 46; ((with_reducible refine hcon'.out.mono ?_)); rintro e w2 ⟨A2, c2, rfl, ho2, hb3, kf2, f2⟩)
  all_goals
    have hst := Lib.hid ((store_data (hD1.out.below hb3.out) hg'.out (OwB.base ho2.out (by omega)) (g := fun f => ⟨f.data ++ l.take m, f.safe⟩) (by rw [hcat'.out])).on ((hbq'.out.trans (hb3.out.mono hbq'.out.size)).mono (by omega)) (Fm.below (hbq'.out.trans (hb3.out.mono hbq'.out.size))))
    clear kf2 f2
    go_wp2_with fail
    go_end0
    exact ⟨rfl, hst.out⟩
end Go.Proofs.YtjhiihmibleecaaGreatDoor.Dk
