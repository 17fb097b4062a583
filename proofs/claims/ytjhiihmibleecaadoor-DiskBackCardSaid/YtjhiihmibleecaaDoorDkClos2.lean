/- The closures of Rename, Cut, Append: what is refused, and what is done. -/
import Derived.Test.YtjhiihmibleecaaDoorDkClos
namespace Go.Proofs.YtjhiihmibleecaaDoor.Dk
open Go.RowKit

set_option maxHeartbeats 1000000 in
set_option maxRecDepth 100000 in
theorem rename1 (w : World) (B a mb : Nat) (L : Al Nat) (F : Nat → Fl) (tv : Value) (d : D) (h : Da w B a mb L F tv d) (s s2 : ByteArray) (hs : s.size ≤ 1000000) (hs2 : s2.size ≤ 1000000) (bd bn b2 : Nat) (hc : Cp w bd bn a s) (hc2 : Cp w bd b2 a s2) (z : Int) (y : List UInt8) :
    Calls Tryd.prog 27 #[.pointer (some ⟨bd, 0, none⟩), .pointer (some ⟨bn, 0, none⟩), .pointer (some ⟨b2, 0, none⟩)] w
      fun e w' => e = .returned (.int .i64 (refuse d 5 s.data.toList s2.data.toList z y)) ∧ Below w.heap.size w w' := by
  obtain ⟨k1, k2⟩ := hc
  have k3 := hc2.bn
  have c1 := h.c1
  have hlk := fun q => (h.below (Joins.below_draws _ w q)).look s (by unfold maxLen; omega)
  have hg := h.get s.data.toList
  cases hG : Dk.get L s.data.toList with
  | none =>
    rw [hG] at hg hlk
    have hX2 : Hid (refuse d 5 s.data.toList s2.data.toList z y = 42) := Lib.hid (by unfold refuse; rw [if_neg (by decide), hg]; rfl)
    obtain ⟨X, hX⟩ : ∃ X, refuse d 5 s.data.toList s2.data.toList z y = X := ⟨_, rfl⟩
    rw [hX] at hX2 ⊢
    clear hg hG h hX hc2
    simp only [Option.map_none] at hlk
    go_enter Tryd.func27, Tryd.ntmps27
    go_wp2_with fail
    go_big_quiet (fail)
    go_wp2_with fail
    go_ret
    exact ⟨ret_int hX2.out.symm, Joins.below_draws _ _ _⟩
  | some b =>
    rw [hG] at hg hlk
    have hX1 : Hid (refuse d 5 s.data.toList s2.data.toList z y = if may s2.data.toList = false then 44 else 0) := Lib.hid (by unfold refuse; rw [if_neg (by decide), hg]; rfl)
    obtain ⟨X, hX⟩ : ∃ X, refuse d 5 s.data.toList s2.data.toList z y = X := ⟨_, rfl⟩
    rw [hX] at hX1 ⊢
    simp only [Option.map_some] at hlk
    clear hg hG h hX hc2
    have hm := fun q => may_any s2 (by omega) (w.drewN q)
    obtain ⟨M, hM⟩ : ∃ M, may s2.data.toList = M := ⟨_, rfl⟩
    rw [hM] at hX1 hm
    clear hM
    go_enter Tryd.func27, Tryd.ntmps27
    go_wp2_with fail
    go_big_quiet (fail)
    go_wp2_with fail
    refine (hm nq).mono ?_
    rintro e w2 ⟨rfl, hb2⟩
    have hb := Lib.hid ((Joins.below_draws w.heap.size w nq).trans (hb2.mono (by simp)))
    clear hb2 hm hlk
    cases M with
    | false =>
      have hX2 : Hid (X = 44) := Lib.hid hX1.out
      clear hX1
      go_wp2_with fail
      go_ret
      exact ⟨ret_int hX2.out.symm, hb.out⟩
    | true =>
      have hX2 : Hid (X = 0) := Lib.hid hX1.out
      clear hX1
      go_wp2_with fail
      go_ret
      exact ⟨ret_int hX2.out.symm, hb.out⟩

set_option maxHeartbeats 1000000 in
set_option maxRecDepth 100000 in
theorem cut1 (w : World) (B a mb : Nat) (L : Al Nat) (F : Nat → Fl) (tv : Value) (d : D) (h : Da w B a mb L F tv d) (s : ByteArray) (hs : s.size ≤ 1000000) (bd bn b2 : Nat) (hc : Cp w bd bn a s) (z : Int) (kz : w.cell? ⟨b2, 0, none⟩ = some (.int .i64 z)) (nt : Name) (y : List UInt8) :
    Calls Tryd.prog 48 #[.pointer (some ⟨bd, 0, none⟩), .pointer (some ⟨bn, 0, none⟩), .pointer (some ⟨b2, 0, none⟩)] w
      fun e w' => e = .returned (.int .i64 (refuse d 3 s.data.toList nt z y)) ∧ Below w.heap.size w w' := by
  obtain ⟨k1, k2⟩ := hc
  have c1 := h.c1
  have hlk := fun q => (h.below (Joins.below_draws _ w q)).look s (by unfold maxLen; omega)
  have hg := h.get s.data.toList
  cases hG : Dk.get L s.data.toList with
  | none =>
    rw [hG] at hg hlk
    have hX2 : Hid (refuse d 3 s.data.toList nt z y = 42) := Lib.hid (by unfold refuse; rw [if_neg (by decide), hg]; rfl)
    obtain ⟨X, hX⟩ : ∃ X, refuse d 3 s.data.toList nt z y = X := ⟨_, rfl⟩
    rw [hX] at hX2 ⊢
    simp only [Option.map_none] at hlk
    clear hg hG h hX
    go_enter Tryd.func48, Tryd.ntmps48
    go_wp2_with fail
    go_big_quiet (fail)
    go_wp2_with fail
    go_ret
    exact ⟨ret_int hX2.out.symm, Joins.below_draws _ _ _⟩
  | some b =>
    obtain ⟨hBb, hblt, A0, c0, hfb, hfs⟩ := h.file hG
    rw [hG] at hg hlk
    have hX1 : refuse d 3 s.data.toList nt z y = if z < 0 ∨ ((F b).data.length : Int) < z then 80 else 0 := by unfold refuse; rw [if_neg (by decide), hg]; rfl
    obtain ⟨X, hX⟩ : ∃ X, refuse d 3 s.data.toList nt z y = X := ⟨_, rfl⟩
    rw [hX] at hX1 ⊢
    simp only [Option.map_some] at hlk
    have kf : w.cell? ⟨b, 0, none⟩ = some (.slice A0 (F b).data.length c0) := by simp [World.cell?, hfb]
    obtain ⟨N, hN⟩ : ∃ N, (F b).data.length = N := ⟨_, rfl⟩
    rw [hN] at kf hX1
    have hX1' := Lib.hid hX1
    clear hg hG h hX hfb hfs hN hX1
    by_cases h0 : z < 0
    · have j0 : decide (z < 0) = true := by simpa using h0
      have hX2 : Hid (X = 80) := Lib.hid (by rw [hX1'.out, if_pos (.inl h0)])
      go_enter Tryd.func48, Tryd.ntmps48
      go_wp2_with fail
      go_big_quiet (fail)
      go_wp2_with fail
      go_big_quiet (fail)
      go_wp2_with fail
      go_ret
      exact ⟨ret_int hX2.out.symm, (Joins.below_draws _ _ _).trans (Joins.below_draws _ _ _)⟩
    · have j0 : decide (z < 0) = false := by simpa using h0
      by_cases h1 : (N : Int) < z
      · have j1 : decide ((N : Int) < z) = true := by simpa using h1
        have hX2 : Hid (X = 80) := Lib.hid (by rw [hX1'.out, if_pos (.inr h1)])
        go_enter Tryd.func48, Tryd.ntmps48
        go_wp2_with fail
        go_big_quiet (fail)
        go_wp2_with fail
        go_big_quiet (fail)
        go_wp2_with fail
        go_ret
        exact ⟨ret_int hX2.out.symm, (Joins.below_draws _ _ _).trans (Joins.below_draws _ _ _)⟩
      · have j1 : decide ((N : Int) < z) = false := by simpa using h1
        have hX2 : Hid (X = 0) := Lib.hid (by rw [hX1'.out, if_neg (by rintro (h | h); exact h0 h; exact h1 h)])
        go_enter Tryd.func48, Tryd.ntmps48
        go_wp2_with fail
        go_big_quiet (fail)
        go_wp2_with fail
        go_big_quiet (fail)
        go_wp2_with fail
        go_ret
        exact ⟨ret_int hX2.out.symm, (Joins.below_draws _ _ _).trans (Joins.below_draws _ _ _)⟩
end Go.Proofs.YtjhiihmibleecaaDoor.Dk
