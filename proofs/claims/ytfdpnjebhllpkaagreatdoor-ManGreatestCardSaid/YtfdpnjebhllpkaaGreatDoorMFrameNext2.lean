/- The walks of the layer frame: the reference's Next. -/
import Derived.Test.YtfdpnjebhllpkaaGreatDoorMFrameWalk
import Derived.Lib.SmallJoins
section
namespace Go.Proofs.YtfdpnjebhllpkaaGreatDoor.FrW
open Go.RowKit

theorem cat3 (a b c : List UInt8) : cat [a, b, c] = a ++ (b ++ c) := by simp [cat]

set_option maxHeartbeats 1000000 in
theorem put_any (A : Option Addr) (n c : Nat) (l : List UInt8) (w : World) (hBs : Bs w A n c l) :
    Calls Tryz.prog 75 #[.slice A n c] w fun e w' => ∃ A' c', e = .returned (.slice A' (Fr.put l).length c') ∧ OwB w' w.heap.size 5 (.slice A' (Fr.put l).length c') (Fr.put l) ∧ Below w.heap.size w w' := by
  have hl := hBs.len
  by_cases h : n < 1 ∨ 1048576 < n
  · have hp : Fr.put l = [] := by unfold Fr.put; rw [if_pos (by omega)]
    rw [hp]
    clear hl hp
    rcases h with h | h
    · go_enter Tryz.func75, Tryz.ntmps75
      go_wp2_with fail
      go_ret
      exact ⟨_, _, rfl, OwB.nil _ _ _, Below.refl _ _⟩
    · go_enter Tryz.func75, Tryz.ntmps75
      go_wp2_with fail
      go_ret
      exact ⟨_, _, rfl, OwB.nil _ _ _, Below.refl _ _⟩
  · have hp : Fr.put l = Fr.frame l := by unfold Fr.put; rw [if_neg (by omega)]
    have hfl := Fr.frame_length l
    have HP : Hid (Fr.put l = Fr.le n ++ (Fr.le (Fr.fsum (Fr.le n) l) ++ l)) := by unfold Hid; rw [hp, Fr.frame, hl]
    have HPl : Hid ((Fr.put l).length = 8 + n) := by unfold Hid; rw [hp, hfl, hl]
    have h1 : 1 ≤ n := by omega
    have h2 : n ≤ 1048576 := by omega
    clear hp hfl hl h
    go_enter Tryz.func75, Tryz.ntmps75
    go_wp2_with fail
    refine (little_any n (by omega) _).mono ?_
    rintro e w1 ⟨A1, c1, rfl, ho1, hb1⟩
    go_wp2_with fail
    refine (fsum_any _ _ _ _ _ _ _ _ _ ho1.bs (hBs.below hb1)).mono ?_
    rintro e w' ⟨rfl, rfl⟩
    have hfs := Fr.fsum_lt (Fr.le n) l
    go_wp2_with fail
    refine (little_any _ hfs _).mono ?_
    rintro e w2 ⟨A2, c2, rfl, ho2, hb2⟩
    have hb12 : Below w.heap.size w w2 := hb1.trans (hb2.mono hb1.size)
    go_wp2_with fail
    refine (concat_any _ _ _ [Fr.le n, Fr.le (Fr.fsum (Fr.le n) l), l] _ (bsl_lit3 w2 _ _ _ _ _ _ _ _ _ _ _ _ _ (ho1.bs.below hb2) ho2.bs (hBs.below hb12)) (by rw [cat3, ← HP.out, HPl.out]; omega)).mono ?_
    rw [cat3, ← HP.out]
    rintro e w3 ⟨A3, c3, rfl, ho3, hb3⟩
    have hb13 : Below w.heap.size w w3 := hb12.trans (((below_alloc w2 _).trans (hb3.mono (by simp))).mono hb12.size)
    go_wp2_with fail
    go_ret
    exact ⟨_, _, rfl, ho3.base (by have := hb12.size; simp; omega), hb13⟩

set_option maxHeartbeats 1000000 in
theorem refput_any (A : Option Addr) (n c : Nat) (l : List UInt8) (w : World) (hBs : Bs w A n c l) :
    Calls Tryz.prog 83 #[.slice A n c] w fun e w' => ∃ A' c', e = .returned (.slice A' (Fr.put l).length c') ∧ OwB w' w.heap.size 5 (.slice A' (Fr.put l).length c') (Fr.put l) ∧ Below w.heap.size w w' := by
  have hl := hBs.len
  by_cases h : n < 1 ∨ 1048576 < n
  · have hp : Fr.put l = [] := by unfold Fr.put; rw [if_pos (by omega)]
    rw [hp]
    clear hl hp
    rcases h with h | h
    · go_enter Tryz.func83, Tryz.ntmps83
      go_wp2_with fail
      go_ret
      exact ⟨_, _, rfl, OwB.nil _ _ _, Below.refl _ _⟩
    · go_enter Tryz.func83, Tryz.ntmps83
      go_wp2_with fail
      go_ret
      exact ⟨_, _, rfl, OwB.nil _ _ _, Below.refl _ _⟩
  · have hp : Fr.put l = Fr.frame l := by unfold Fr.put; rw [if_neg (by omega)]
    have hfl := Fr.frame_length l
    have HP : Hid (Fr.put l = Fr.le n ++ Fr.le (Fr.fsum (Fr.le n) l) ++ l) := by unfold Hid; rw [hp, Fr.frame, hl, List.append_assoc]
    have HPl : Hid ((Fr.put l).length = 8 + n) := by unfold Hid; rw [hp, hfl, hl]
    have HL := Lib.hid hl
    have h1 : 1 ≤ n := by omega
    have h2 : n ≤ 1048576 := by omega
    clear hp hfl hl h
    go_enter Tryz.func83, Tryz.ntmps83
    go_wp2_with fail
    refine (put32_any n (by omega) _).mono ?_
    rintro e w1 ⟨A1, c1, rfl, ho1, hb1⟩
    go_wp2_with (at_builtin; apply stop_here)
    have hW : w.heap.size ≤ w1.heap.size := hb1.size
    refine Stop.go (append_bytes _ 22 5 Tryz.underlying22 info_u8 rfl _ _ rfl w1.heap.size _ [] rfl (owb_lit _ _ (Nat.le_refl _) _ _ _ _ rfl (by decide) rfl) _ _ _ (Fr.le n) rfl (ho1.bs.below (below_alloc _ _)) 4 (by simp) (by omega) (by simp) ?_)
    intro A2 c2 w2 ho2 hg2 hb2
    have hb12 : Below w1.heap.size w1 w2 := (below_alloc w1 _).trans hb2
    have hb02 : Below w.heap.size w w2 := hb1.trans (hb12.mono hW)
    have hs12 := hb12.size
    clear hg2 hb2
    go_wp2_with (at_builtin; apply stop_here)
    refine Stop.go (append_bytes _ 22 5 Tryz.underlying22 info_u8 rfl _ _ rfl w1.heap.size _ _ rfl ho2 _ _ _ l rfl (hBs.below hb02) (4 + n) (by simp) (by omega) hs12 ?_)
    intro A3 c3 w3 ho3 hg3 hb3
    have hb13 : Below w1.heap.size w1 w3 := hb12.trans hb3
    have hb03 : Below w.heap.size w w3 := hb1.trans (hb13.mono hW)
    clear hg3 hb3
    go_wp2_with fail
    refine (CrcW.ref_any _ _ _ _ _ ho3.bs).mono ?_
    rintro e w' ⟨rfl, rfl⟩
    have hfs := Fr.fsum_lt (Fr.le n) l
    go_wp2_with fail
    refine (put32_any (Fr.fsum (Fr.le n) l) hfs _).mono ?_
    rintro e w4 ⟨A4, c4, rfl, ho4, hb4⟩
    have hb14 : Below w1.heap.size w1 w4 := hb13.trans (hb4.mono hb13.size)
    have hb04 : Below w.heap.size w w4 := hb1.trans (hb14.mono hW)
    have hs14 := hb14.size
    have ho1' := ho1.below hb14
    go_wp2_with (at_builtin; apply stop_here)
    refine Stop.go (append_bytes _ 22 5 Tryz.underlying22 info_u8 rfl _ _ rfl w.heap.size _ _ rfl ho1' _ _ _ (Fr.le (Fr.fsum (Fr.le n) l)) rfl ho4.bs 8 (by simp) (by omega) (by omega) ?_)
    intro A5 c5 w5 ho5 hg5 hb5
    have hb05 : Below w.heap.size w w5 := hb04.trans hb5
    have hs05 := hb05.size
    clear hg5 hb5
    go_wp2_with (at_builtin; apply stop_here)
    refine Stop.go (append_bytes _ 22 5 Tryz.underlying22 info_u8 rfl _ _ rfl w.heap.size _ _ rfl ho5 _ _ _ l rfl (hBs.below hb05) (8 + n) (by simp) (by omega) hs05 ?_)
    intro A6 c6 w6 ho6 hg6 hb6
    have hb06 : Below w.heap.size w w6 := hb05.trans hb6
    rw [← HP.out] at ho6
    go_wp2_with fail
    go_ret
    rw [HPl.out]
    exact ⟨_, _, rfl, ho6, hb06⟩

set_option maxHeartbeats 1000000 in
theorem next_any (A : Option Addr) (n c : Nat) (l : List UInt8) (w : World) (hBs : Bs w A n c l) :
    Calls Tryz.prog 112 #[.slice A n c] w fun e w' => ∃ A' c', e = .returned (.tuple #[.slice A' (Fr.next l).1.length c', .int .i64 ((Fr.next l).2.1 : Nat), .int .i64 ((Fr.next l).2.2 : Nat)]) ∧ OwB w' w.heap.size 5 (.slice A' (Fr.next l).1.length c') (Fr.next l).1 ∧ Below w.heap.size w w' := by
  have hl := hBs.len
  have hlc := Rd.le hBs
  have hcm := Rd.max hBs
  have HL := Lib.hid hl
  generalize hN : Fr.next l = N
  unfold Fr.next at hN
  rw [hl] at hN
  clear hl
  by_cases h0 : n = 0
  · rw [if_pos h0] at hN
    subst hN
    subst h0
    go_enter Tryz.func112, Tryz.ntmps112
    go_wp2_with fail
    go_ret3
    exact ⟨_, _, rfl, OwB.nil _ _ _, Below.refl _ _⟩
  rw [if_neg h0] at hN
  have hN0 : ((n : Int) == 0) = false := by rw [beq_eq_false_iff_ne]; omega
  by_cases h4 : n < 4
  · rw [if_pos h4] at hN
    subst hN
    go_enter Tryz.func112, Tryz.ntmps112
    go_wp2_with fail
    go_ret3
    exact ⟨_, _, rfl, OwB.nil _ _ _, Below.refl _ _⟩
  rw [if_neg h4] at hN
  have h4' : 4 ≤ n := by omega
  generalize hg : Fr.get l = g at *
  have HG := Lib.hid hg
  have hg32 : g < 4294967296 := by rw [← hg]; exact Fr.get_lt l
  clear hg
  by_cases hb : g < 1 ∨ 1048576 < g
  · rw [if_pos hb] at hN
    subst hN
    rcases hb with hb | hb
    · go_enter Tryz.func112, Tryz.ntmps112
      go_wp2_with fail
      refine (whole_any _ _ _ _ _ hBs h4').mono ?_
      rintro e w1 ⟨rfl, k1, rfl⟩
      rw [HG.out]
      go_wp2_with fail
      go_ret3
      exact ⟨_, _, rfl, OwB.nil _ _ _, Joins.below_draws _ _ _⟩
    · go_enter Tryz.func112, Tryz.ntmps112
      go_wp2_with fail
      refine (whole_any _ _ _ _ _ hBs h4').mono ?_
      rintro e w1 ⟨rfl, k1, rfl⟩
      rw [HG.out]
      go_wp2_with fail
      go_ret3
      exact ⟨_, _, rfl, OwB.nil _ _ _, Joins.below_draws _ _ _⟩
  rw [if_neg hb] at hN
  have hg1 : 1 ≤ g := by omega
  have hg2 : g ≤ 1048576 := by omega
  clear hb
  by_cases hs : n < 8 + g
  · rw [if_pos hs] at hN
    subst hN
    go_enter Tryz.func112, Tryz.ntmps112
    go_wp2_with fail
    refine (whole_any _ _ _ _ _ hBs h4').mono ?_
    rintro e w1 ⟨rfl, k1, rfl⟩
    rw [HG.out]
    go_wp2_with fail
    go_ret3
    exact ⟨_, _, rfl, OwB.nil _ _ _, Joins.below_draws _ _ _⟩
  rw [if_neg hs] at hN
  have hs' : 8 + g ≤ n := by omega
  clear hs
  obtain ⟨b, off, rfl, _, _⟩ := Rd.cell hBs (by omega)
  have hr : Bs w (some ⟨b, off + 8, none⟩) (8 + g - 8) (c - 8) ((l.drop 8).take (8 + g - 8)) :=
    hBs.cut 8 (8 + g) (by omega) hs' _ (fun b' off' h _ => by injection h with h; injection h with h1 h2; subst h1; subst h2; rfl) (fun h => by cases h) (fun _ h => by cases h)
  have h4l : Bs w (some ⟨b, off, none⟩) (4 - 0) (c - 0) ((l.drop 0).take (4 - 0)) :=
    hBs.cut 0 4 (by omega) h4' _ (fun b' off' h _ => by injection h with h; injection h with h1 h2; subst h1; subst h2; rfl) (fun h => by cases h) (fun _ h => by cases h)
  have h4d : Bs w (some ⟨b, off + 4, none⟩) (n - 4) (c - 4) ((l.drop 4).take (n - 4)) :=
    hBs.cut 4 n h4' (by omega) _ (fun b' off' h _ => by injection h with h; injection h with h1 h2; subst h1; subst h2; rfl) (fun h => by cases h) (fun _ h => by cases h)
  rw [show 8 + g - 8 = g from by omega] at hr
  rw [List.drop_zero, Nat.sub_zero, Nat.sub_zero] at h4l
  rw [List.take_of_length_le (by rw [List.length_drop, HL.out]; omega)] at h4d
  have HR : Hid (((l.drop 8).take g).length = g) := hr.len
  have q1 : (4 : Int) ≤ (c : Int) := by omega
  have q2 : (n : Int) ≤ (c : Int) := by omega
  have q3 : (4 : Int) ≤ (n : Int) := by omega
  have q4 : 4 ≤ c := by omega
  have q5 : ¬ c = 4 := by omega
  generalize (l.drop 8).take g = r at *
  generalize hf : Fr.fsum (l.take 4) r = fs at *
  have HFS := Lib.hid hf
  have hfs : fs < 4294967296 := by rw [← hf]; exact Fr.fsum_lt _ _
  clear hf
  generalize hq : Fr.get (l.drop 4) = q at *
  have HQ := Lib.hid hq
  clear hq
  by_cases hne : fs ≠ q
  · rw [if_pos hne] at hN
    subst hN
    have hb : ((fs : Int) != (q : Int)) = true := by rw [bne_iff_ne]; omega
    clear hne
    go_enter Tryz.func112, Tryz.ntmps112
    go_wp2_with fail
    refine (whole_any _ _ _ _ _ hBs h4').mono ?_
    rintro e w1 ⟨rfl, k1, rfl⟩
    rw [HG.out]
    go_wp2_with fail
    refine (clone_any _ _ _ r _ (hr.below (Joins.below_draws _ _ _)) (by omega)).mono ?_
    rintro e w2 ⟨A2, c2, rfl, ho2, hb2⟩
    have hb02 : Below w.heap.size w w2 := (Joins.below_draws _ _ _).trans hb2
    have h4l2 := h4l.below hb02
    have h4d2 := h4d.below hb02
    go_wp2_with fail
    go_quiet ((first | (go_at_call 139; exact Calls.quiet_of_same ((fsum_any _ _ _ _ _ _ _ _ _ (h4l2.below (Joins.below_draws _ _ _)) (ho2.bs.below (Joins.below_draws _ _ _))).mono (fun _ _ h => ⟨h.1, h.2.symm⟩))) | (go_at_call 165; exact Calls.quiet_of (whole_any _ _ _ _ _ (h4d2.below (Joins.below_draws _ _ _)) (by omega)))))
    rw [HFS.out, HQ.out]
    go_wp2_with fail
    go_ret3
    exact ⟨_, _, rfl, OwB.nil _ _ _, hb02.trans (Joins.below_draws _ _ _)⟩
  · rw [if_neg hne] at hN
    subst hN
    have hb : ((fs : Int) != (q : Int)) = false := by rw [bne_eq_false_iff_eq]; omega
    clear hne
    go_enter Tryz.func112, Tryz.ntmps112
    go_wp2_with fail
    refine (whole_any _ _ _ _ _ hBs h4').mono ?_
    rintro e w1 ⟨rfl, k1, rfl⟩
    rw [HG.out]
    go_wp2_with fail
    refine (clone_any _ _ _ r _ (hr.below (Joins.below_draws _ _ _)) (by omega)).mono ?_
    rintro e w2 ⟨A2, c2, rfl, ho2, hb2⟩
    have hb02 : Below w.heap.size w w2 := (Joins.below_draws _ _ _).trans hb2
    have h4l2 := h4l.below hb02
    have h4d2 := h4d.below hb02
    go_wp2_with fail
    go_quiet ((first | (go_at_call 139; exact Calls.quiet_of_same ((fsum_any _ _ _ _ _ _ _ _ _ (h4l2.below (Joins.below_draws _ _ _)) (ho2.bs.below (Joins.below_draws _ _ _))).mono (fun _ _ h => ⟨h.1, h.2.symm⟩))) | (go_at_call 165; exact Calls.quiet_of (whole_any _ _ _ _ _ (h4d2.below (Joins.below_draws _ _ _)) (by omega)))))
    rw [HFS.out, HQ.out]
    go_wp2_with fail
    go_ret3
    have hrl := HR.out
    subst hrl
    exact ⟨_, _, rfl, ho2, hb02.trans (Joins.below_draws _ _ _)⟩

end Go.Proofs.YtfdpnjebhllpkaaGreatDoor.FrW
end

section
namespace Go.Proofs.YtfdpnjebhllpkaaGreatDoor.FrW
open Go.RowKit

theorem info_sl : (Tryz.prog.info? 22).map (fun i => (i.zero, i.size, i.bytes)) = some (some (.slice none 0 0), 1, 24) := by kernel_rfl

theorem want_iff (l : List UInt8) (g : Nat) (hg : Fr.get l = g) (h1 : 1 ≤ g) (h2 : g ≤ 1048576) (hs : 8 + g ≤ l.length) :
    Fr.put ((l.drop 8).take g) = l.take (8 + g) ↔ Fr.fsum (l.take 4) ((l.drop 8).take g) = Fr.get (l.drop 4) := by
  have hrl : ((l.drop 8).take g).length = g := by simp; omega
  have hp : Fr.put ((l.drop 8).take g) = Fr.le g ++ (Fr.le (Fr.fsum (Fr.le g) ((l.drop 8).take g)) ++ (l.drop 8).take g) := by
    unfold Fr.put
    rw [if_neg (by omega), Fr.frame, hrl]
  have hle : Fr.le g = l.take 4 := by rw [← hg]; exact Fr.le_get l (by omega)
  have hle2 : Fr.le (Fr.get (l.drop 4)) = (l.drop 4).take 4 := Fr.le_get _ (by rw [List.length_drop]; omega)
  have hsplit : l.take (8 + g) = l.take 4 ++ ((l.drop 4).take 4 ++ (l.drop 8).take g) := by
    rw [show 8 + g = 4 + (4 + g) from by omega, List.take_add, List.take_add, List.drop_drop]
  rw [hp, hsplit, hle]
  generalize (l.drop 8).take g = r at *
  constructor
  · intro h
    have h := List.append_cancel_left h
    have h := List.append_cancel_right h
    have e : Fr.get (Fr.le (Fr.fsum (l.take 4) r) ++ []) = Fr.get ((l.drop 4).take 4 ++ []) := by rw [h]
    rw [Fr.get_le _ (Fr.fsum_lt _ _), ← hle2, Fr.get_le _ (Fr.get_lt _)] at e
    exact e
  · intro h
    rw [h, hle2]

set_option maxHeartbeats 1000000 in
theorem refnext_any (A : Option Addr) (n c : Nat) (l : List UInt8) (w : World) (hBs : Bs w A n c l) :
    Calls Tryz.prog 113 #[.slice A n c] w fun e w' => ∃ A' c', e = .returned (.tuple #[.slice A' (Fr.next l).1.length c', .int .i64 ((Fr.next l).2.1 : Nat), .int .i64 ((Fr.next l).2.2 : Nat)]) ∧ OwB w' w.heap.size 5 (.slice A' (Fr.next l).1.length c') (Fr.next l).1 ∧ Below w.heap.size w w' := by
  have hl := hBs.len
  have hlc := Rd.le hBs
  have hcm := Rd.max hBs
  have HL := Lib.hid hl
  generalize hN : Fr.next l = N
  unfold Fr.next at hN
  rw [hl] at hN
  clear hl
  by_cases h0 : n = 0
  · rw [if_pos h0] at hN
    subst hN
    subst h0
    go_enter Tryz.func113, Tryz.ntmps113
    go_wp2_with fail
    go_ret3
    exact ⟨_, _, rfl, OwB.nil _ _ _, Below.refl _ _⟩
  rw [if_neg h0] at hN
  have hN0 : ((n : Int) == 0) = false := by rw [beq_eq_false_iff_ne]; omega
  by_cases h4 : n < 4
  · rw [if_pos h4] at hN
    subst hN
    go_enter Tryz.func113, Tryz.ntmps113
    go_wp2_with fail
    go_ret3
    exact ⟨_, _, rfl, OwB.nil _ _ _, Below.refl _ _⟩
  rw [if_neg h4] at hN
  have h4' : 4 ≤ n := by omega
  have HW := Lib.hid (want_iff l)
  generalize hg : Fr.get l = g at *
  have HG := Lib.hid hg
  have hg32 : g < 4294967296 := by rw [← hg]; exact Fr.get_lt l
  clear hg
  by_cases hb : g < 1 ∨ 1048576 < g
  · rw [if_pos hb] at hN
    subst hN
    by_cases hb1 : g < 1
    · go_enter Tryz.func113, Tryz.ntmps113
      go_wp2_with fail
      refine (get32_any _ _ _ _ _ hBs h4').mono ?_
      rintro e w1 ⟨rfl, k1, rfl⟩
      rw [HG.out]
      go_wp2_with fail
      go_ret3
      exact ⟨_, _, rfl, OwB.nil _ _ _, Joins.below_draws _ _ _⟩
    · have hb2 : 1048576 < g := by omega
      go_enter Tryz.func113, Tryz.ntmps113
      go_wp2_with fail
      refine (get32_any _ _ _ _ _ hBs h4').mono ?_
      rintro e w1 ⟨rfl, k1, rfl⟩
      rw [HG.out]
      go_wp2_with fail
      refine (get32_any _ _ _ _ _ (hBs.below (Joins.below_draws _ _ _)) h4').mono ?_
      rintro e w1 ⟨rfl, k2, rfl⟩
      rw [HG.out]
      go_wp2_with fail
      go_ret3
      exact ⟨_, _, rfl, OwB.nil _ _ _, Joins.below_draws _ _ _⟩
  rw [if_neg hb] at hN
  have hg1 : 1 ≤ g := by omega
  have hg2 : g ≤ 1048576 := by omega
  clear hb
  by_cases hs : n < 8 + g
  · rw [if_pos hs] at hN
    subst hN
    go_enter Tryz.func113, Tryz.ntmps113
    go_wp2_with fail
    refine (get32_any _ _ _ _ _ hBs h4').mono ?_
    rintro e w1 ⟨rfl, k1, rfl⟩
    rw [HG.out]
    go_wp2_with fail
    refine (get32_any _ _ _ _ _ (hBs.below (Joins.below_draws _ _ _)) h4').mono ?_
    rintro e w1 ⟨rfl, k2, rfl⟩
    rw [HG.out]
    go_wp2_with fail
    refine (get32_any _ _ _ _ _ (hBs.below (Joins.below_draws _ _ _)) h4').mono ?_
    rintro e w1 ⟨rfl, k3, rfl⟩
    rw [HG.out]
    go_wp2_with fail
    go_ret3
    exact ⟨_, _, rfl, OwB.nil _ _ _, Joins.below_draws _ _ _⟩
  rw [if_neg hs] at hN
  have hs' : 8 + g ≤ n := by omega
  clear hs
  have hiff : Fr.put ((l.drop 8).take g) = l.take (8 + g) ↔ Fr.fsum (l.take 4) ((l.drop 8).take g) = Fr.get (l.drop 4) := want_iff l g HG.out hg1 hg2 (by rw [HL.out]; exact hs')
  clear HW
  obtain ⟨b, off, rfl, _, _⟩ := Rd.cell hBs (by omega)
  have hr : Bs w (some ⟨b, off + 8, none⟩) (8 + g - 8) (c - 8) ((l.drop 8).take (8 + g - 8)) :=
    hBs.cut 8 (8 + g) (by omega) hs' _ (fun b' off' h _ => by injection h with h; injection h with h1 h2; subst h1; subst h2; rfl) (fun h => by cases h) (fun _ h => by cases h)
  have h8 : Bs w (some ⟨b, off, none⟩) (8 + g - 0) (c - 0) ((l.drop 0).take (8 + g - 0)) :=
    hBs.cut 0 (8 + g) (by omega) hs' _ (fun b' off' h _ => by injection h with h; injection h with h1 h2; subst h1; subst h2; rfl) (fun h => by cases h) (fun _ h => by cases h)
  rw [show 8 + g - 8 = g from by omega] at hr
  rw [List.drop_zero, Nat.sub_zero, Nat.sub_zero] at h8
  have HR : Hid (((l.drop 8).take g).length = g) := hr.len
  generalize (l.drop 8).take g = r at *
  have hpl : (Fr.put r).length ≤ 1048584 := by
    unfold Fr.put
    split
    · simp
    · rw [Fr.frame_length]; omega
  by_cases hne : Fr.put r = l.take (8 + g)
  · have hd : decide (Fr.put r = l.take (8 + g)) = true := by simpa using hne
    rw [if_neg (by simpa using hiff.1 hne)] at hN
    subst hN
    clear hiff hne
    generalize hP : Fr.put r = P at *
    have HP := Lib.hid hP
    clear hP
    generalize hQ : l.take (8 + g) = Q at *
    have HQ := Lib.hid hQ
    clear hQ
    go_enter Tryz.func113, Tryz.ntmps113
    go_wp2_with fail
    refine (get32_any _ _ _ _ _ hBs h4').mono ?_
    rintro e w1 ⟨rfl, k1, rfl⟩
    rw [HG.out]
    go_wp2_with fail
    refine (get32_any _ _ _ _ _ (hBs.below (Joins.below_draws _ _ _)) h4').mono ?_
    rintro e w1 ⟨rfl, k2, rfl⟩
    rw [HG.out]
    go_wp2_with fail
    refine (get32_any _ _ _ _ _ (hBs.below (Joins.below_draws _ _ _)) h4').mono ?_
    rintro e w1 ⟨rfl, k3, rfl⟩
    rw [HG.out]
    go_wp2_with fail
    refine (get32_any _ _ _ _ _ (hBs.below (Joins.below_draws _ _ _)) h4').mono ?_
    rintro e w1 ⟨rfl, k4, rfl⟩
    rw [HG.out]
    go_wp2_with fail
    refine (refput_any _ _ _ r _ (hr.below (Joins.below_draws _ _ _))).mono ?_
    rw [HP.out]
    rintro e w2 ⟨A2, c2, rfl, ho2, hb2⟩
    have hb02 : Below w.heap.size w w2 := (Joins.below_draws _ _ _).trans hb2
    have h82 := h8.below hb02
    have hr2 := hr.below hb02
    clear hb2
    go_wp2_with fail
    refine (bytes_any _ _ _ P _ _ _ Q _ ho2.bs h82).mono ?_
    rintro e w3 ⟨rfl, k5, rfl⟩
    rw [hd]
    have hr3 : Bs (w2.drewN k5) (some ⟨b, off + 8, none⟩) g (c - 8) r := hr2.below (Joins.below_draws _ _ _)
    have hb03 : Below w.heap.size w (w2.drewN k5) := hb02.trans (Joins.below_draws _ _ _)
    generalize w2.drewN k5 = w3 at *
    go_wp2_with (at_builtin; apply stop_here)
    rw [show 8 + g - 8 = g from by omega]
    refine Stop.go (append_bytes _ 22 5 Tryz.underlying22 info_u8 rfl _ _ rfl w.heap.size _ [] rfl (owb_lit _ _ (by have := hb03.size; omega) _ _ _ _ rfl (by decide) rfl) _ _ _ r rfl (hr3.below (below_alloc _ _)) g (by simp) (by omega) (by have := hb03.size; simp; omega) ?_)
    intro A4 c4 w4 ho4 hg4 hb4
    have hb04 : Below w.heap.size w w4 := hb03.trans (((below_alloc w3 _).mono hb03.size).trans hb4)
    clear hg4 hb4
    go_wp2_with fail
    go_ret3
    have hrl := HR.out
    subst hrl
    exact ⟨_, _, rfl, ho4, hb04⟩
  · have hd : decide (Fr.put r = l.take (8 + g)) = false := by simpa using hne
    rw [if_pos (fun h => hne (hiff.2 h))] at hN
    subst hN
    clear hiff hne
    generalize hP : Fr.put r = P at *
    have HP := Lib.hid hP
    clear hP
    generalize hQ : l.take (8 + g) = Q at *
    have HQ := Lib.hid hQ
    clear hQ
    go_enter Tryz.func113, Tryz.ntmps113
    go_wp2_with fail
    refine (get32_any _ _ _ _ _ hBs h4').mono ?_
    rintro e w1 ⟨rfl, k1, rfl⟩
    rw [HG.out]
    go_wp2_with fail
    refine (get32_any _ _ _ _ _ (hBs.below (Joins.below_draws _ _ _)) h4').mono ?_
    rintro e w1 ⟨rfl, k2, rfl⟩
    rw [HG.out]
    go_wp2_with fail
    refine (get32_any _ _ _ _ _ (hBs.below (Joins.below_draws _ _ _)) h4').mono ?_
    rintro e w1 ⟨rfl, k3, rfl⟩
    rw [HG.out]
    go_wp2_with fail
    refine (get32_any _ _ _ _ _ (hBs.below (Joins.below_draws _ _ _)) h4').mono ?_
    rintro e w1 ⟨rfl, k4, rfl⟩
    rw [HG.out]
    go_wp2_with fail
    refine (refput_any _ _ _ r _ (hr.below (Joins.below_draws _ _ _))).mono ?_
    rw [HP.out]
    rintro e w2 ⟨A2, c2, rfl, ho2, hb2⟩
    have hb02 : Below w.heap.size w w2 := (Joins.below_draws _ _ _).trans hb2
    have h82 := h8.below hb02
    clear hb2
    go_wp2_with fail
    refine (bytes_any _ _ _ P _ _ _ Q _ ho2.bs h82).mono ?_
    rintro e w3 ⟨rfl, k5, rfl⟩
    rw [hd]
    go_wp2_with fail
    go_ret3
    exact ⟨_, _, rfl, OwB.nil _ _ _, hb02.trans (Joins.below_draws _ _ _)⟩
end Go.Proofs.YtfdpnjebhllpkaaGreatDoor.FrW
end
