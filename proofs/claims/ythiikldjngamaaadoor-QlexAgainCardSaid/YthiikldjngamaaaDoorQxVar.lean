/- variable, operand. -/
import Derived.Test.YthiikldjngamaaaDoorQxOpd
namespace Go.Proofs.YthiikldjngamaaaDoor.Qx
open Go.RowKit UtfW

set_option maxHeartbeats 1000000 in
set_option maxRecDepth 100000 in
theorem variable_any (w : World) (b : Nat) (S : List UInt8) (k : Nat) (ts : List Tok) (A : Option Addr) (n c : Nat) (hS : S.length ≤ 1000) (hn : n ≤ 1000) (h : Sc w b S k ts A n c) (q0 : UInt8) (t : List UInt8) (hq : S.drop k = q0 :: t) :
    Calls Tryd.prog 31 #[.pointer (some ⟨b, 0, none⟩)] w (Step b S k ts A n c (variable_ t) w) := by
  have hsz : (strOf S).size = S.length := strOf_size' S
  have c0 := h.c0
  have c1 := h.c1
  have f1 := h.frozen 1
  obtain ⟨hk, hx, ht, htl⟩ := drop_cons hq
  obtain ⟨h1, hb1⟩ := h.set1 (k + 1)
  rw [show ((k + 1 : Nat) : Int) = (k : Int) + 1 from rfl] at h1 hb1
  obtain ⟨w1, hw1⟩ : ∃ w1, w.setCell ⟨b, 1, none⟩ (.int .i64 ((k : Int) + 1)) = w1 := ⟨_, rfl⟩
  rw [hw1] at h1 hb1
  have hsk := sk_drop S (k + 1)
  rw [ht] at hsk
  have hle := sk_le S (k + 1) (by omega)
  have hge := sk_ge S (k + 1)
  have hlen := skip_len t
  have hq3 : sk S (k + 1) = k + 1 + (t.takeWhile blank).length := by unfold sk; rw [ht]
  obtain ⟨k2, hk2⟩ : ∃ k2, sk S (k + 1) = k2 := ⟨_, rfl⟩
  rw [hk2] at hsk hle hge hq3
  have hk2' := Lib.hid hk2
  have hsk' := Lib.hid hsk
  have hq3' := Lib.hid hq3
  have hlen' := Lib.hid hlen
  have h' := Lib.hid h1
  have hb' := Lib.hid hb1
  clear hx ht htl h hq hk2 hsk hq3 hlen h1 hb1
  go_enter Tryd.func31, Tryd.ntmps31
  go_wp2_with fail
  refine (skip_any w1 b S (k + 1) ts A n c (by omega) hS h'.out).mono ?_
  rintro e w2 ⟨rfl, hs2, hb2⟩
  rw [hk2'.out] at hs2
  have hs2' := Lib.hid hs2
  have hb2' := Lib.hid (hb'.out.trans hb2)
  clear hs2 hb2 c0 c1 f1 hw1
  go_wp2_with fail
  refine (name_any w2 b S k2 ts A n c hle hS hs2'.out).mono ?_
  rintro e w3 ⟨rfl, hb3⟩
  have hs3 := Lib.hid (hs2'.out.below hb3)
  have hb3' := Lib.hid (hb2'.out.trans (hb3.mono (Nat.le_of_lt hs2'.out.lt)))
  have hml := nameF_le ((S.drop k2).length + 1) true (S.drop k2)
  have hml2 : nameL (S.drop k2) ≤ (S.drop k2).length := hml
  rw [List.length_drop] at hml2
  have hR : variable_ t = if nameL (S.drop k2) = 0 then .bad 60 else .tok 9 ((S.drop k2).take (nameL (S.drop k2))) (k2 + nameL (S.drop k2) - k) := by
    unfold variable_
    rw [← hsk'.out]
    split
    · rfl
    · have := hq3'.out
      have := hlen'.out
      rw [← hsk'.out] at this
      rw [show 1 + (t.length - (S.drop k2).length) + nameL (S.drop k2) = k2 + nameL (S.drop k2) - k by omega]
  clear hb3 hml
  obtain ⟨m, hm⟩ : ∃ m, nameL (S.drop k2) = m := ⟨_, rfl⟩
  rw [hm] at hR hml2 ⊢
  have hR' := Lib.hid hR
  clear hm hR
  have c0 := hs3.out.c0
  have c1 := hs3.out.c1
  have hcut : (strOf S).extract k2 (k2 + m) = strOf ((S.drop k2).take m) := by rw [strOf_cut, Nat.add_sub_cancel_left]
  have t2 : IntKind.i64.wrap ((k2 : Int) + (m : Int)) = (k2 : Int) + (m : Int) := wrap_nat (k2 + m) (by omega)
  have t3 : ((k2 : Int) + (m : Int)).toNat = k2 + m := by omega
  have t4 : 0 ≤ (k2 : Int) + (m : Int) ∧ (k2 : Int) + (m : Int) ≤ (S.length : Int) := ⟨by omega, by omega⟩
  have t5 : (k2 : Int) ≤ (k2 : Int) + (m : Int) := by omega
  have t6 : k2 + m ≤ S.length := by omega
  have t7 : k2 ≤ k2 + m := by omega
  have t8 : 0 ≤ (k2 : Int) + (m : Int) := by omega
  have t9 : (k2 : Int) + (m : Int) ≤ (S.length : Int) := by omega
  go_wp2_with fail
  go_big_quiet (fail)
  have hs4 := Lib.hid (hs3.out.below (Joins.below_draws _ w3 nq))
  have hb4 := Lib.hid (hb3'.out.trans ((Joins.below_draws _ w3 nq).mono (Nat.le_of_lt hs3.out.lt)))
  generalize w3.drewN nq = w4 at hs4 hb4 ⊢
  clear c0 c1
  have c0 := hs4.out.c0
  have c1 := hs4.out.c1
  have f1 := hs4.out.frozen 1
  obtain ⟨h5, hb5⟩ := hs4.out.set1 k
  obtain ⟨w5, hw5⟩ : ∃ w5, w4.setCell ⟨b, 1, none⟩ (.int .i64 (k : Int)) = w5 := ⟨_, rfl⟩
  rw [hw5] at h5 hb5
  have h5' := Lib.hid h5
  have hb5' := Lib.hid (hb4.out.trans hb5)
  clear h5 hb5
  by_cases h0 : m = 0
  · have i0 : ((m : Int) == 0) = true := by rw [beq_iff_eq]; omega
    have h0' := Lib.hid h0
    clear h0
    go_wp2_with fail
    go_ret
    exact Step.bad_ (by rw [hR'.out, if_pos h0'.out]) h5'.out hb5'.out
  · have i0 : ((m : Int) == 0) = false := by rw [beq_eq_false_iff_ne]; omega
    obtain ⟨q, hq0⟩ : ∃ q, k2 + m - k = q := ⟨_, rfl⟩
    have hR2 : Hid (variable_ t = .tok 9 ((S.drop k2).take m) q) := by rw [hR'.out, if_neg h0, hq0]; exact Lib.hid rfl
    have hq : (k2 : Int) + (m : Int) - (k : Int) = (q : Int) := by omega
    have hq2 : q ≤ 2000 := by omega
    clear h0 hq0
    go_wp2_with fail
    refine (put_any w5 b S k ts A n c (Nat.le_of_lt hk) hS hn h5'.out 9 q hq2 _).mono ?_
    rintro e w6 ⟨rfl, ⟨A', c', hs6⟩, hb6⟩
    have hs6' := Lib.hid hs6
    have hb6' := Lib.hid (hb5'.out.trans hb6)
    clear hs6 hb6
    go_wp2_with fail
    go_ret
    exact Step.tok_ hR2.out hs6'.out hb6'.out

set_option maxHeartbeats 1000000 in
set_option maxRecDepth 100000 in
theorem operand_any (w : World) (b : Nat) (S : List UInt8) (k : Nat) (ts : List Tok) (A : Option Addr) (n c : Nat) (hn : n ≤ 1000) (h : Sc w b S k ts A n c) :
    Calls Tryd.prog 32 #[.pointer (some ⟨b, 0, none⟩)] w fun e w' => e = .returned (.bool (opd ts)) ∧ Below w.heap.size w w' := by
  have c2 := h.c2
  have hl := h.row.len
  rcases Nat.eq_zero_or_pos n with rfl | h0
  · have : ts = [] := List.eq_nil_of_length_eq_zero hl
    subst this
    clear hl h
    go_enter Tryd.func32, Tryd.ntmps32
    go_wp2_with fail
    go_ret
    exact ⟨rfl, Below.refl _ _⟩
  · obtain ⟨N, rfl⟩ : ∃ N, n = N + 1 := ⟨n - 1, by omega⟩
    obtain ⟨g, off, p, rfl, hg, hp, g0, g1, g2⟩ := h.row.rt.at_ (k := N) (by omega)
    have ho : opd ts = opdT p.1 p.2.2 := by
      unfold opd
      rw [List.getLast?_eq_getElem?, hl, Nat.add_sub_cancel, hp]
    rw [ho]
    obtain ⟨kd, pl, tx⟩ := p
    simp only at g0 g1 g2 ⊢
    obtain ⟨M, hM⟩ : ∃ M, M = N + 1 := ⟨_, rfl⟩
    rw [← hM] at c2
    have d2 : ∀ o, (w.alloc o).cell? ⟨b, 2, none⟩ = some (.slice (some ⟨g, off, none⟩) M c) := fun o => ((below_alloc w o).cell (p := ⟨b, 2, none⟩) h.lt).trans c2
    have d3 : ∀ o, (w.alloc o).cell? ⟨g, off + N * 3, none⟩ = some (.int .i64 kd) := fun o => ((below_alloc w o).cell (p := ⟨g, _, none⟩) hg).trans g0
    have d4 : ∀ o, (w.alloc o).cell? ⟨g, off + N * 3 + 1, none⟩ = some (.int .i64 pl) := fun o => ((below_alloc w o).cell (p := ⟨g, _, none⟩) hg).trans g1
    have d5 : ∀ o, (w.alloc o).cell? ⟨g, off + N * 3 + 2, none⟩ = some (.string (strOf tx)) := fun o => ((below_alloc w o).cell (p := ⟨g, _, none⟩) hg).trans g2
    have e1 : ((M : Int) == 0) = false := by rw [beq_eq_false_iff_ne]; omega
    have e2 : (M : Int) - 1 = (N : Int) := by omega
    have e3 : IntKind.i64.wrap (N : Int) = (N : Int) := wrap_nat N (by omega)
    have e4 : 0 ≤ (N : Int) ∧ (N : Int) < (M : Int) := ⟨by omega, by omega⟩
    have e5 : (N : Int) < (M : Int) := by omega
    clear hl h h0 hp ho hM
    go_enter Tryd.func32, Tryd.ntmps32
    go_wp2_with fail
    go_region
    have hbw : Below w.heap.size w ((w.alloc (.cells #[.int .i64 kd, .int .i64 pl, .string (strOf tx)] 31)).drew) := bD (below_alloc _ _)
    have hbw' := Lib.hid hbw
    clear hbw d2 d3 d4 d5 g0 g1 g2 c2
    by_cases h5 : kd = 5
    · have i5 : (kd == 5) = true := by rw [beq_iff_eq]; exact h5
      have h5' := Lib.hid h5
      clear h5
      go_wp2_with fail
      go_ret
      exact ⟨ret_bool (by rw [opdT, if_pos h5'.out]), hbw'.out⟩
    · have i5 : (kd == 5) = false := by rw [beq_eq_false_iff_ne]; exact h5
      have h5' := Lib.hid h5
      clear h5
      by_cases h6 : kd = 6
      · have i6 : (kd == 6) = true := by rw [beq_iff_eq]; exact h6
        have h6' := Lib.hid h6
        clear h6
        go_wp2_with fail
        refine (contains_any (w.heap.size + 1) 5 opens tx _ rfl (by omega) ?_).mono ?_
        · intro j z hz
          obtain rfl | rfl | rfl | rfl | rfl : j = 0 ∨ j = 1 ∨ j = 2 ∨ j = 3 ∨ j = 4 := by
            have := (List.getElem?_eq_some_iff.1 hz).1
            have hl : opens.length = 5 := rfl
            omega
          all_goals (injection hz with hz; subst hz; go_simp; rfl)
        · rintro e w2 ⟨rfl, rfl⟩
          go_wp2_with fail
          go_ret
          refine ⟨ret_bool (by rw [opdT, if_neg h5'.out, if_pos h6'.out]), ?_⟩
          repeat (first | exact Below.refl _ _ | refine bA ?_ _ | refine bD ?_)
      · have i6 : (kd == 6) = false := by rw [beq_eq_false_iff_ne]; exact h6
        have h6' := Lib.hid h6
        clear h6
        go_wp2_with fail
        go_ret
        exact ⟨ret_bool (by rw [opdT, if_neg h5'.out, if_neg h6'.out]), hbw'.out⟩
end Go.Proofs.YthiikldjngamaaaDoor.Qx
