/- The other closures of Append and Cut. -/
import Derived.Test.YtjhiihmibleecaaDoorDkClos2
namespace Go.Proofs.YtjhiihmibleecaaDoor.Dk
open Go.RowKit

set_option maxHeartbeats 2000000 in
set_option maxRecDepth 100000 in
theorem append2 (w : World) (B a mb : Nat) (L : Al Nat) (F : Nat → Fl) (tv : Value) (d : D) (h : Da w B a mb L F tv d) (s : ByteArray) (hs : s.size ≤ 1000000) (bd bn bb : Nat) (hc : Cp w bd bn a s)
    (A : Option Addr) (n c : Nat) (l : List UInt8) (hl : l.length = n) (kb : w.cell? ⟨bb, 0, none⟩ = some (.slice A n c)) (hn : n ≤ 1000000) (hu : used d.fs ≤ 1000000000) (hroom : d.room ≤ 9223372036854775807) (z : Int) (nt : Name) :
    Calls Tryd.prog 35 #[.pointer (some ⟨bd, 0, none⟩), .pointer (some ⟨bn, 0, none⟩), .pointer (some ⟨bb, 0, none⟩)] w
      fun e w' => e = .returned (.int .i64 (refuse d 2 s.data.toList nt z l)) ∧ Below w.heap.size w w' := by
  obtain ⟨k1, k2⟩ := id hc
  have lt1 := hc.lt1
  have lt3 := cell_lt kb
  have halt := h.alt
  have c1 := h.c1
  have hlk := fun q => (h.below (Joins.below_draws _ w q)).look s (by unfold maxLen; omega)
  have hg := h.get s.data.toList
  cases hG : Dk.get L s.data.toList with
  | none =>
    rw [hG] at hg hlk
    have hX2 : Hid (refuse d 2 s.data.toList nt z l = 42) := Lib.hid (by unfold refuse; rw [if_neg (by decide), hg]; rfl)
    obtain ⟨X, hX⟩ : ∃ X, refuse d 2 s.data.toList nt z l = X := ⟨_, rfl⟩
    rw [hX] at hX2 ⊢
    simp only [Option.map_none] at hlk
    clear hg hG h hX lt1 lt3 halt
    go_enter Tryd.func35, Tryd.ntmps35
    go_wp2_with fail
    go_big_quiet (fail)
    go_wp2_with fail
    go_ret
    exact ⟨ret_int hX2.out.symm, Joins.below_draws _ _ _⟩
  | some b =>
    rw [hG] at hg hlk
    have hX1 : refuse d 2 s.data.toList nt z l = if (d.room : Int) - used d.fs < l.length then 40 else 0 := by unfold refuse; rw [if_neg (by decide), hg]; rfl
    obtain ⟨X, hX⟩ : ∃ X, refuse d 2 s.data.toList nt z l = X := ⟨_, rfl⟩
    rw [hX] at hX1 ⊢
    simp only [Option.map_some] at hlk
    have kr : w.cell? ⟨a, 0, none⟩ = some (.int .i64 (d.room : Nat)) := by simp [World.cell?, h.blk]
    have hX1' := Lib.hid hX1
    have h' := Lib.hid h
    have hbd' := Lib.hid lt1
    obtain ⟨U, hU⟩ : ∃ U, used d.fs = U := ⟨_, rfl⟩
    have hus : ∀ w1, Below w.heap.size w w1 → Calls Tryd.prog 11 #[.pointer (some ⟨a, 0, none⟩)] w1 fun e w2 => e = .returned (.int .i64 (U : Nat)) ∧ Hid (Below w.heap.size w w2) ∧ w2.cell? ⟨bd, 0, none⟩ = some (.pointer (some ⟨a, 0, none⟩)) ∧ w2.cell? ⟨bb, 0, none⟩ = some (.slice A n c) ∧ w2.cell? ⟨a, 0, none⟩ = some (.int .i64 (d.room : Nat)) := fun w1 hb1 => by
      refine (Used_any w1 B a mb L F tv d (h'.out.below hb1) hu).mono ?_
      rintro e w2 ⟨rfl, hb2⟩
      have hb := hb1.trans (hb2.mono hb1.size)
      exact ⟨by rw [hU], Lib.hid hb, (hb.cell (p := ⟨bd, 0, none⟩) lt1).trans k1, (hb.cell (p := ⟨bb, 0, none⟩) lt3).trans kb, (hb.cell (p := ⟨a, 0, none⟩) halt).trans kr⟩
    have hus' := Lib.hid hus
    rw [hU, hl] at hX1
    have hX1' := Lib.hid hX1
    obtain ⟨R, hR⟩ : ∃ R, d.room = R := ⟨_, rfl⟩
    rw [hR] at kr hX1' hroom hus'
    rw [hU] at hu
    have sall : ∀ w', Below w.heap.size w w' → (Below w.heap.size w w' ∧ w'.cell? ⟨bd, 0, none⟩ = some (.pointer (some ⟨a, 0, none⟩)) ∧ w'.cell? ⟨bb, 0, none⟩ = some (.slice A n c) ∧ w'.cell? ⟨a, 0, none⟩ = some (.int .i64 (R : Nat))) := fun w' hb =>
      ⟨hb, (hb.cell (p := ⟨bd, 0, none⟩) lt1).trans k1, (hb.cell (p := ⟨bb, 0, none⟩) lt3).trans kb, (hb.cell (p := ⟨a, 0, none⟩) halt).trans kr⟩
    have sall' := Lib.hid sall
    clear hg hG h hX hX1 hus hbd' lt1 lt3 halt hl hR hU sall
    go_enter Tryd.func35, Tryd.ntmps35
    go_wp2_with fail
    go_big_quiet (fail)
    have hb1 : Below w.heap.size w (w.drewN nq) := Joins.below_draws _ w nq
    obtain ⟨_, g1, g2, g3⟩ := sall'.out _ hb1
    generalize w.drewN nq = w1 at hb1 g1 g2 g3 ⊢
    have wr : IntKind.i64.wrap ((R : Int) - (U : Int)) = (R : Int) - (U : Int) := IntWalk.i64_in _ (by omega)
    clear k1 k2 kb kr c1 hlk
    by_cases hlt : (R : Int) - (U : Int) < (n : Int)
    · have j1 : decide ((R : Int) - (U : Int) < (n : Int)) = true := by simpa using hlt
      have hX2 : Hid (X = 40) := Lib.hid (by rw [hX1'.out, if_pos hlt])
      go_wp2_with fail
      go_region_held3 (fun w' => Below w.heap.size w w' ∧ w'.cell? ⟨bd, 0, none⟩ = some (.pointer (some ⟨a, 0, none⟩)) ∧ w'.cell? ⟨bb, 0, none⟩ = some (.slice A n c) ∧ w'.cell? ⟨a, 0, none⟩ = some (.int .i64 (R : Nat)))
        (first | exact sall'.out _ (by assumption) | exact sall'.out _ hb1 | exact sall'.out _ (Below.drew hb1))
        (first | (go_at_call 11; refine (hus'.out _ (And.left ‹Below w.heap.size w _ ∧ _›)).mono ?_; rintro e w2 ⟨rfl, hb2, _, _, _⟩; have hB' := hb2.out))
      have hh := Lib.hid (And.left ‹Below w.heap.size w _ ∧ _›)
      go_wp2_with fail
      go_ret
      exact ⟨ret_int hX2.out.symm, hh.out⟩
    · have j1 : decide ((R : Int) - (U : Int) < (n : Int)) = false := by simpa using hlt
      have hX2 : Hid (X = 0) := Lib.hid (by rw [hX1'.out, if_neg hlt])
      go_wp2_with fail
      go_region_held3 (fun w' => Below w.heap.size w w' ∧ w'.cell? ⟨bd, 0, none⟩ = some (.pointer (some ⟨a, 0, none⟩)) ∧ w'.cell? ⟨bb, 0, none⟩ = some (.slice A n c) ∧ w'.cell? ⟨a, 0, none⟩ = some (.int .i64 (R : Nat)))
        (first | exact sall'.out _ (by assumption) | exact sall'.out _ hb1 | exact sall'.out _ (Below.drew hb1))
        (first | (go_at_call 11; refine (hus'.out _ (And.left ‹Below w.heap.size w _ ∧ _›)).mono ?_; rintro e w2 ⟨rfl, hb2, _, _, _⟩; have hB' := hb2.out))
      have hh := Lib.hid (And.left ‹Below w.heap.size w _ ∧ _›)
      go_wp2_with fail
      go_ret
      exact ⟨ret_int hX2.out.symm, hh.out⟩
end Go.Proofs.YtjhiihmibleecaaDoor.Dk
