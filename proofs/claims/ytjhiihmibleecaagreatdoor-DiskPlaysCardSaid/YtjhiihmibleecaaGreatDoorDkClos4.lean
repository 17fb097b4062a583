/- Append's part and whole; Cut. -/
import Derived.Test.YtjhiihmibleecaaGreatDoorDkClos
section
namespace Go.Proofs.YtjhiihmibleecaaGreatDoor.Dk
open Go.RowKit

set_option maxHeartbeats 1000000 in
set_option maxRecDepth 100000 in
theorem rename1 (w : World) (B a mb : Nat) (L : Al Nat) (F : Nat → Fl) (tv : Value) (d : D) (h : Da w B a mb L F tv d) (s s2 : ByteArray) (hs : s.size ≤ 1000000) (hs2 : s2.size ≤ 1000000) (bd bn b2 : Nat) (hc : Cp w bd bn a s) (hc2 : Cp w bd b2 a s2) (z : Int) (y : List UInt8) :
    Calls Tryz.prog 56 #[.pointer (some ⟨bd, 0, none⟩), .pointer (some ⟨bn, 0, none⟩), .pointer (some ⟨b2, 0, none⟩)] w
      fun e w' => e = .returned (.int .i64 (refuse d 5 s.data.toList s2.data.toList z y)) ∧ Below w.heap.size w w' := by
  obtain ⟨k1, k2⟩ := hc
  have k3 := hc2.bn
  have c1 := h.c1
  have hlk := fun q => (h.below (Joins.below_draws _ w q)).look s (by unfold maxLen; omega)
  have hg := h.get s.data.toList
  cases hG : Dk.get L s.data.toList with
  | none =>
    rw [hG] at hg hlk
    have hX2 : Hid (refuse d 5 s.data.toList s2.data.toList z y = 42) := Lib.hid (by unfold refuse; rw [if_neg (by decide), hg]; rfl)
    obtain ⟨X, hX⟩ : ∃ X, refuse d 5 s.data.toList s2.data.toList z y = X := ⟨_, rfl⟩
    rw [hX] at hX2 ⊢
    clear hg hG h hX hc2
    simp only [Option.map_none] at hlk
    go_enter Tryz.func56, Tryz.ntmps56
    go_wp2_with fail
    go_big_quiet (fail)
    go_wp2_with fail
    go_ret
    exact ⟨ret_int hX2.out.symm, Joins.below_draws _ _ _⟩
  | some b =>
    rw [hG] at hg hlk
    have hX1 : Hid (refuse d 5 s.data.toList s2.data.toList z y = if may s2.data.toList = false then 44 else 0) := Lib.hid (by unfold refuse; rw [if_neg (by decide), hg]; rfl)
    obtain ⟨X, hX⟩ : ∃ X, refuse d 5 s.data.toList s2.data.toList z y = X := ⟨_, rfl⟩
    rw [hX] at hX1 ⊢
    simp only [Option.map_some] at hlk
    clear hg hG h hX hc2
    have hm := fun q => may_any s2 (by omega) (w.drewN q)
    obtain ⟨M, hM⟩ : ∃ M, may s2.data.toList = M := ⟨_, rfl⟩
    rw [hM] at hX1 hm
    clear hM
    go_enter Tryz.func56, Tryz.ntmps56
    go_wp2_with fail
    go_big_quiet (fail)
    go_wp2_with fail
    refine (hm nq).mono ?_
    rintro e w2 ⟨rfl, hb2⟩
    have hb := Lib.hid ((Joins.below_draws w.heap.size w nq).trans (hb2.mono (by simp)))
    clear hb2 hm hlk
    cases M with
    | false =>
      have hX2 : Hid (X = 44) := Lib.hid hX1.out
      clear hX1
      go_wp2_with fail
      go_ret
      exact ⟨ret_int hX2.out.symm, hb.out⟩
    | true =>
      have hX2 : Hid (X = 0) := Lib.hid hX1.out
      clear hX1
      go_wp2_with fail
      go_ret
      exact ⟨ret_int hX2.out.symm, hb.out⟩

set_option maxHeartbeats 1000000 in
set_option maxRecDepth 100000 in
theorem cut1 (w : World) (B a mb : Nat) (L : Al Nat) (F : Nat → Fl) (tv : Value) (d : D) (h : Da w B a mb L F tv d) (s : ByteArray) (hs : s.size ≤ 1000000) (bd bn b2 : Nat) (hc : Cp w bd bn a s) (z : Int) (kz : w.cell? ⟨b2, 0, none⟩ = some (.int .i64 z)) (nt : Name) (y : List UInt8) :
    Calls Tryz.prog 54 #[.pointer (some ⟨bd, 0, none⟩), .pointer (some ⟨bn, 0, none⟩), .pointer (some ⟨b2, 0, none⟩)] w
      fun e w' => e = .returned (.int .i64 (refuse d 3 s.data.toList nt z y)) ∧ Below w.heap.size w w' := by
  obtain ⟨k1, k2⟩ := hc
  have c1 := h.c1
  have hlk := fun q => (h.below (Joins.below_draws _ w q)).look s (by unfold maxLen; omega)
  have hg := h.get s.data.toList
  cases hG : Dk.get L s.data.toList with
  | none =>
    rw [hG] at hg hlk
    have hX2 : Hid (refuse d 3 s.data.toList nt z y = 42) := Lib.hid (by unfold refuse; rw [if_neg (by decide), hg]; rfl)
    obtain ⟨X, hX⟩ : ∃ X, refuse d 3 s.data.toList nt z y = X := ⟨_, rfl⟩
    rw [hX] at hX2 ⊢
    simp only [Option.map_none] at hlk
    clear hg hG h hX
    go_enter Tryz.func54, Tryz.ntmps54
    go_wp2_with fail
    go_big_quiet (fail)
    go_wp2_with fail
    go_ret
    exact ⟨ret_int hX2.out.symm, Joins.below_draws _ _ _⟩
  | some b =>
    obtain ⟨hBb, hblt, A0, c0, hfb, hfs⟩ := h.file hG
    rw [hG] at hg hlk
    have hX1 : refuse d 3 s.data.toList nt z y = if z < 0 ∨ ((F b).data.length : Int) < z then 80 else 0 := by unfold refuse; rw [if_neg (by decide), hg]; rfl
    obtain ⟨X, hX⟩ : ∃ X, refuse d 3 s.data.toList nt z y = X := ⟨_, rfl⟩
    rw [hX] at hX1 ⊢
    simp only [Option.map_some] at hlk
    have kf : w.cell? ⟨b, 0, none⟩ = some (.slice A0 (F b).data.length c0) := by simp [World.cell?, hfb]
    obtain ⟨N, hN⟩ : ∃ N, (F b).data.length = N := ⟨_, rfl⟩
    rw [hN] at kf hX1
    have hX1' := Lib.hid hX1
    clear hg hG h hX hfb hfs hN hX1
    by_cases h0 : z < 0
    · have j0 : decide (z < 0) = true := by simpa using h0
      have hX2 : Hid (X = 80) := Lib.hid (by rw [hX1'.out, if_pos (.inl h0)])
      go_enter Tryz.func54, Tryz.ntmps54
      go_wp2_with fail
      go_big_quiet (fail)
      go_wp2_with fail
      go_big_quiet (fail)
      go_wp2_with fail
      go_ret
      exact ⟨ret_int hX2.out.symm, (Joins.below_draws _ _ _).trans (Joins.below_draws _ _ _)⟩
    · have j0 : decide (z < 0) = false := by simpa using h0
      by_cases h1 : (N : Int) < z
      · have j1 : decide ((N : Int) < z) = true := by simpa using h1
        have hX2 : Hid (X = 80) := Lib.hid (by rw [hX1'.out, if_pos (.inr h1)])
        go_enter Tryz.func54, Tryz.ntmps54
        go_wp2_with fail
        go_big_quiet (fail)
        go_wp2_with fail
        go_big_quiet (fail)
        go_wp2_with fail
        go_ret
        exact ⟨ret_int hX2.out.symm, (Joins.below_draws _ _ _).trans (Joins.below_draws _ _ _)⟩
      · have j1 : decide ((N : Int) < z) = false := by simpa using h1
        have hX2 : Hid (X = 0) := Lib.hid (by rw [hX1'.out, if_neg (by rintro (h | h); exact h0 h; exact h1 h)])
        go_enter Tryz.func54, Tryz.ntmps54
        go_wp2_with fail
        go_big_quiet (fail)
        go_wp2_with fail
        go_big_quiet (fail)
        go_wp2_with fail
        go_ret
        exact ⟨ret_int hX2.out.symm, (Joins.below_draws _ _ _).trans (Joins.below_draws _ _ _)⟩
end Go.Proofs.YtjhiihmibleecaaGreatDoor.Dk
end

section
namespace Go.Proofs.YtjhiihmibleecaaGreatDoor.Dk
open Go.RowKit

set_option maxHeartbeats 2000000 in
set_option maxRecDepth 100000 in
theorem append2 (w : World) (B a mb : Nat) (L : Al Nat) (F : Nat → Fl) (tv : Value) (d : D) (h : Da w B a mb L F tv d) (s : ByteArray) (hs : s.size ≤ 1000000) (bd bn bb : Nat) (hc : Cp w bd bn a s)
    (A : Option Addr) (n c : Nat) (l : List UInt8) (hl : l.length = n) (kb : w.cell? ⟨bb, 0, none⟩ = some (.slice A n c)) (hn : n ≤ 1000000) (hu : used d.fs ≤ 1000000000) (hroom : d.room ≤ 9223372036854775807) (z : Int) (nt : Name) :
    Calls Tryz.prog 47 #[.pointer (some ⟨bd, 0, none⟩), .pointer (some ⟨bn, 0, none⟩), .pointer (some ⟨bb, 0, none⟩)] w
      fun e w' => e = .returned (.int .i64 (refuse d 2 s.data.toList nt z l)) ∧ Below w.heap.size w w' := by
  obtain ⟨k1, k2⟩ := id hc
  have lt1 := hc.lt1
  have lt3 := cell_lt kb
  have halt := h.alt
  have c1 := h.c1
  have hlk := fun q => (h.below (Joins.below_draws _ w q)).look s (by unfold maxLen; omega)
  have hg := h.get s.data.toList
  cases hG : Dk.get L s.data.toList with
  | none =>
    rw [hG] at hg hlk
    have hX2 : Hid (refuse d 2 s.data.toList nt z l = 42) := Lib.hid (by unfold refuse; rw [if_neg (by decide), hg]; rfl)
    obtain ⟨X, hX⟩ : ∃ X, refuse d 2 s.data.toList nt z l = X := ⟨_, rfl⟩
    rw [hX] at hX2 ⊢
    simp only [Option.map_none] at hlk
    clear hg hG h hX lt1 lt3 halt
    go_enter Tryz.func47, Tryz.ntmps47
    go_wp2_with fail
    go_big_quiet (fail)
    go_wp2_with fail
    go_ret
    exact ⟨ret_int hX2.out.symm, Joins.below_draws _ _ _⟩
  | some b =>
    rw [hG] at hg hlk
    have hX1 : refuse d 2 s.data.toList nt z l = if (d.room : Int) - used d.fs < l.length then 40 else 0 := by unfold refuse; rw [if_neg (by decide), hg]; rfl
    obtain ⟨X, hX⟩ : ∃ X, refuse d 2 s.data.toList nt z l = X := ⟨_, rfl⟩
    rw [hX] at hX1 ⊢
    simp only [Option.map_some] at hlk
    have kr : w.cell? ⟨a, 0, none⟩ = some (.int .i64 (d.room : Nat)) := by simp [World.cell?, h.blk]
    have hX1' := Lib.hid hX1
    have h' := Lib.hid h
    have hbd' := Lib.hid lt1
    obtain ⟨U, hU⟩ : ∃ U, used d.fs = U := ⟨_, rfl⟩
    have hus : ∀ w1, Below w.heap.size w w1 → Calls Tryz.prog 13 #[.pointer (some ⟨a, 0, none⟩)] w1 fun e w2 => e = .returned (.int .i64 (U : Nat)) ∧ Hid (Below w.heap.size w w2) ∧ w2.cell? ⟨bd, 0, none⟩ = some (.pointer (some ⟨a, 0, none⟩)) ∧ w2.cell? ⟨bb, 0, none⟩ = some (.slice A n c) ∧ w2.cell? ⟨a, 0, none⟩ = some (.int .i64 (d.room : Nat)) := fun w1 hb1 => by
      refine (Used_any w1 B a mb L F tv d (h'.out.below hb1) hu).mono ?_
      rintro e w2 ⟨rfl, hb2⟩
      have hb := hb1.trans (hb2.mono hb1.size)
      exact ⟨by rw [hU], Lib.hid hb, (hb.cell (p := ⟨bd, 0, none⟩) lt1).trans k1, (hb.cell (p := ⟨bb, 0, none⟩) lt3).trans kb, (hb.cell (p := ⟨a, 0, none⟩) halt).trans kr⟩
    have hus' := Lib.hid hus
    rw [hU, hl] at hX1
    have hX1' := Lib.hid hX1
    obtain ⟨R, hR⟩ : ∃ R, d.room = R := ⟨_, rfl⟩
    rw [hR] at kr hX1' hroom hus'
    rw [hU] at hu
    have sall : ∀ w', Below w.heap.size w w' → (Below w.heap.size w w' ∧ w'.cell? ⟨bd, 0, none⟩ = some (.pointer (some ⟨a, 0, none⟩)) ∧ w'.cell? ⟨bb, 0, none⟩ = some (.slice A n c) ∧ w'.cell? ⟨a, 0, none⟩ = some (.int .i64 (R : Nat))) := fun w' hb =>
      ⟨hb, (hb.cell (p := ⟨bd, 0, none⟩) lt1).trans k1, (hb.cell (p := ⟨bb, 0, none⟩) lt3).trans kb, (hb.cell (p := ⟨a, 0, none⟩) halt).trans kr⟩
    have sall' := Lib.hid sall
    clear hg hG h hX hX1 hus hbd' lt1 lt3 halt hl hR hU sall
    go_enter Tryz.func47, Tryz.ntmps47
    go_wp2_with fail
    go_big_quiet (fail)
    have hb1 : Below w.heap.size w (w.drewN nq) := Joins.below_draws _ w nq
    obtain ⟨_, g1, g2, g3⟩ := sall'.out _ hb1
    generalize w.drewN nq = w1 at hb1 g1 g2 g3 ⊢
    have wr : IntKind.i64.wrap ((R : Int) - (U : Int)) = (R : Int) - (U : Int) := IntWalk.i64_in _ (by omega)
    clear k1 k2 kb kr c1 hlk
    by_cases hlt : (R : Int) - (U : Int) < (n : Int)
    · have j1 : decide ((R : Int) - (U : Int) < (n : Int)) = true := by simpa using hlt
      have hX2 : Hid (X = 40) := Lib.hid (by rw [hX1'.out, if_pos hlt])
      go_wp2_with fail
      go_region_held3 (fun w' => Below w.heap.size w w' ∧ w'.cell? ⟨bd, 0, none⟩ = some (.pointer (some ⟨a, 0, none⟩)) ∧ w'.cell? ⟨bb, 0, none⟩ = some (.slice A n c) ∧ w'.cell? ⟨a, 0, none⟩ = some (.int .i64 (R : Nat)))
        (first | exact sall'.out _ (by assumption) | exact sall'.out _ hb1 | exact sall'.out _ (Below.drew hb1))
        (first | (go_at_call 13; refine (hus'.out _ (And.left ‹Below w.heap.size w _ ∧ _›)).mono ?_; rintro e w2 ⟨rfl, hb2, _, _, _⟩; have hB' := hb2.out))
      have hh := Lib.hid (And.left ‹Below w.heap.size w _ ∧ _›)
      go_wp2_with fail
      go_ret
      exact ⟨ret_int hX2.out.symm, hh.out⟩
    · have j1 : decide ((R : Int) - (U : Int) < (n : Int)) = false := by simpa using hlt
      have hX2 : Hid (X = 0) := Lib.hid (by rw [hX1'.out, if_neg hlt])
      go_wp2_with fail
      go_region_held3 (fun w' => Below w.heap.size w w' ∧ w'.cell? ⟨bd, 0, none⟩ = some (.pointer (some ⟨a, 0, none⟩)) ∧ w'.cell? ⟨bb, 0, none⟩ = some (.slice A n c) ∧ w'.cell? ⟨a, 0, none⟩ = some (.int .i64 (R : Nat)))
        (first | exact sall'.out _ (by assumption) | exact sall'.out _ hb1 | exact sall'.out _ (Below.drew hb1))
        (first | (go_at_call 13; refine (hus'.out _ (And.left ‹Below w.heap.size w _ ∧ _›)).mono ?_; rintro e w2 ⟨rfl, hb2, _, _, _⟩; have hB' := hb2.out))
      have hh := Lib.hid (And.left ‹Below w.heap.size w _ ∧ _›)
      go_wp2_with fail
      go_ret
      exact ⟨ret_int hX2.out.symm, hh.out⟩
end Go.Proofs.YtjhiihmibleecaaGreatDoor.Dk
end

section
namespace Go.Proofs.YtjhiihmibleecaaGreatDoor.Dk
open Go.RowKit

/-- What the closures of Append captured: the variable put, the bytes. -/
def PutV (w : World) (bp bd bn bb : Nat) : Prop := w.cell? ⟨bp, 0, none⟩ = some (.func (.func 45) #[] #[.pointer (some ⟨bd, 0, none⟩), .pointer (some ⟨bn, 0, none⟩), .pointer (some ⟨bb, 0, none⟩)])

set_option maxHeartbeats 1000000 in
set_option maxRecDepth 100000 in
theorem append4 (w : World) (B a mb : Nat) (L : Al Nat) (F : Nat → Fl) (tv : Value) (d : D) (h : Da w B a mb L F tv d) (s : ByteArray) (hs : s.size ≤ 1000000) (bd bn bb bp : Nat) (hc : Cp w bd bn a s) (hp : PutV w bp bd bn bb)
    (A : Option Addr) (n c : Nat) (l : List UInt8) (kb : w.cell? ⟨bb, 0, none⟩ = some (.slice A n c)) (hBs : Bs w A n c l) (hn : n ≤ 1000000) (b : Nat) (hg : Dk.get L s.data.toList = some b) (hfl : (F b).data.length ≤ 1000000000) :
    Calls Tryz.prog 49 #[.pointer (some ⟨bp, 0, none⟩), .pointer (some ⟨bb, 0, none⟩)] w
      fun e w' => e = .returned (.tuple #[]) ∧ St B a mb tv { d with fs := upd s.data.toList (fun f => ⟨f.data ++ l, f.safe⟩) d.fs } w w' := by
  have hcon := append1 w B a mb L F tv d h s hs bd bn bb hc A n c l kb hBs hn n (Nat.le_refl _) b hg hfl
  rw [List.take_of_length_le (by rw [hBs.len]; exact Nat.le_refl _)] at hcon
  have hcon' := Lib.hid hcon
  have kp : w.cell? ⟨bp, 0, none⟩ = _ := hp
  have e1 : ∀ args w, (callFunc 45 args).run Tryz.prog w = .ok (.enter 45 args) w := enters_of Tryz.func45 (by kernel_rfl) rfl
  clear hcon h hc hp hBs hg
  go_enter Tryz.func49, Tryz.ntmps49
  go_wp2_with fail
  refine hcon'.out.mono ?_
  rintro e w1 ⟨rfl, hst⟩
  have hst' := Lib.hid hst
  clear hst kp kb
  go_wp2_with fail
  go_end0
  exact ⟨rfl, hst'.out⟩

set_option maxHeartbeats 1000000 in
set_option maxRecDepth 100000 in
theorem append3 (w : World) (B a mb : Nat) (L : Al Nat) (F : Nat → Fl) (tv : Value) (d : D) (h : Da w B a mb L F tv d) (s : ByteArray) (hs : s.size ≤ 1000000) (bd bn bb bp : Nat) (hc : Cp w bd bn a s) (hp : PutV w bp bd bn bb)
    (A : Option Addr) (n c : Nat) (l : List UInt8) (kb : w.cell? ⟨bb, 0, none⟩ = some (.slice A n c)) (hBs : Bs w A n c l) (hn : n ≤ 1000000) (b : Nat) (hg : Dk.get L s.data.toList = some b) (hfl : (F b).data.length ≤ 1000000000) (z : Int) :
    Calls Tryz.prog 48 #[.int .i64 z, .pointer (some ⟨bp, 0, none⟩), .pointer (some ⟨bb, 0, none⟩)] w
      fun e w' => e = .returned (.tuple #[]) ∧ St B a mb tv { d with fs := upd s.data.toList (fun f => ⟨f.data ++ l.take z.toNat, f.safe⟩) d.fs } w w' := by
  obtain ⟨m, hm⟩ : ∃ m : Nat, min (max z 0) (n : Int) = (m : Int) := ⟨(min (max z 0) (n : Int)).toNat, by omega⟩
  have hcon := append1 w B a mb L F tv d h s hs bd bn bb hc A n c l kb hBs hn m (by omega) b hg hfl
  have htk : l.take m = l.take z.toNat := by
    have hl := hBs.len
    rcases Nat.le_total z.toNat n with h1 | h1
    · rw [show m = z.toNat by omega]
    · rw [show m = n by omega, List.take_of_length_le (by omega), List.take_of_length_le (by omega)]
  rw [htk] at hcon
  have hcon' := Lib.hid hcon
  have kp : w.cell? ⟨bp, 0, none⟩ = _ := hp
  have e1 : ∀ args w, (callFunc 45 args).run Tryz.prog w = .ok (.enter 45 args) w := enters_of Tryz.func45 (by kernel_rfl) rfl
  clear hcon h hc hp hBs hg htk
  go_enter Tryz.func48, Tryz.ntmps48
  go_wp2_with fail
  refine hcon'.out.mono ?_
  rintro e w1 ⟨rfl, hst⟩
  have hst' := Lib.hid hst
  clear hst kp kb
  go_wp2_with fail
  go_end0
  exact ⟨rfl, hst'.out⟩
end Go.Proofs.YtjhiihmibleecaaGreatDoor.Dk
end
