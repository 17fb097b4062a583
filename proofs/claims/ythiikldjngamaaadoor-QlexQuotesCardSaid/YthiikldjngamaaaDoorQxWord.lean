/- word and sign. -/
import Derived.Test.YthiikldjngamaaaDoorQxVar
namespace Go.Proofs.YthiikldjngamaaaDoor.Qx
open Go.RowKit UtfW

theorem sc_alloc {w w2 w3 : World} {b : Nat} {S : List UInt8} {k : Nat} {ts : List Tok} {A : Option Addr} {n c : Nat} {o : Obj} (h : Sc w2 b S k ts A n c) (hb : Below b w w2) (e : w3 = w2.alloc o) : Sc w3 b S k ts A n c ∧ Below b w w3 := by
  subst e
  exact ⟨h.below (below_alloc _ _), hb.trans ((below_alloc _ _).mono (Nat.le_of_lt h.lt))⟩

set_option maxHeartbeats 4000000 in
set_option maxRecDepth 100000 in
theorem word_any (w : World) (b : Nat) (S : List UInt8) (k : Nat) (ts : List Tok) (A : Option Addr) (n c : Nat) (hk : k < S.length) (hS : S.length ≤ 1000) (hn : n ≤ 1000) (h : Sc w b S k ts A n c) (m : Nat) (hm : k + m ≤ S.length) :
    Calls Tryd.prog 36 #[.pointer (some ⟨b, 0, none⟩), .int .i64 (m : Nat)] w (Step b S k ts A n c (word (opd ts) (S.drop k) m) w) := by
  have hsz : (strOf S).size = S.length := strOf_size' S
  have c0 := h.c0
  have c1 := h.c1
  obtain ⟨T, hT⟩ : ∃ T, (S.drop k).take m = T := ⟨_, rfl⟩
  have hcut : (strOf S).extract k (k + m) = strOf T := by rw [strOf_cut, Nat.add_sub_cancel_left, hT]
  have hcut2 := cut_end S (k + m)
  have hwd : word (opd ts) (S.drop k) m = if opd ts then (if T ∈ ops then .tok 5 T m else .bad 61) else .tok (wkind T (fol (skip (S.drop (k + m))))) T m := by
    unfold word
    rw [hT, List.drop_drop]
  have t2 : IntKind.i64.wrap ((k : Int) + (m : Int)) = (k : Int) + (m : Int) := wrap_nat (k + m) (by omega)
  have t3 : ((k : Int) + (m : Int)).toNat = k + m := by omega
  have t4 : 0 ≤ (k : Int) + (m : Int) ∧ (k : Int) + (m : Int) ≤ (S.length : Int) := ⟨by omega, by omega⟩
  have t5 : (k : Int) ≤ (k : Int) + (m : Int) := by omega
  have t7 : k ≤ k + m := by omega
  have t8 : 0 ≤ (k : Int) + (m : Int) := by omega
  have t9 : (k : Int) + (m : Int) ≤ (S.length : Int) := by omega
  obtain ⟨O, hO⟩ : ∃ O, opd ts = O := ⟨_, rfl⟩
  rw [hO] at hwd ⊢
  have hO' := Lib.hid hO
  have hwd2 := Lib.hid hwd
  have h' := Lib.hid h
  clear h hwd hT hO
  go_enter Tryd.func36, Tryd.ntmps36
  go_wp2_with fail
  go_big_quiet (fail)
  have hs1 := Lib.hid (h'.out.below (Joins.below_draws _ w nq))
  have hb1 : Hid (Below b w (w.drewN nq)) := Lib.hid ((Joins.below_draws _ _ _).mono (Nat.le_of_lt h'.out.lt))
  generalize w.drewN nq = w1 at hs1 hb1 ⊢
  clear c0 c1
  go_wp2_with fail
  refine (operand_any w1 b S k ts A n c hn hs1.out).mono ?_
  rintro e w2 ⟨rfl, hb2⟩
  have hs2 := Lib.hid (hs1.out.below hb2)
  have hb2' := Lib.hid (hb1.out.trans (hb2.mono (Nat.le_of_lt hs1.out.lt)))
  clear hb2
  rw [hO'.out]
  clear hO'
  cases O with
  | true =>
    by_cases hmem : T ∈ ops
    · have i1 : decide (T ∈ ops) = true := by simpa using hmem
      have hmem' := Lib.hid hmem
      clear hmem
      go_wp2_with fail
      refine (contains_any _ 4 ops T _ rfl (by omega) ?_).mono ?_
      · intro j z hz
        obtain rfl | rfl | rfl | rfl : j = 0 ∨ j = 1 ∨ j = 2 ∨ j = 3 := by
          have := (List.getElem?_eq_some_iff.1 hz).1
          have hl : ops.length = 4 := rfl
          omega
        all_goals (injection hz with hz; subst hz; go_simp; rfl)
      rintro e w3 ⟨rfl, hw3⟩
      have hs3 := Lib.hid (sc_alloc hs2.out hb2'.out hw3).1
      have hb3 := Lib.hid (sc_alloc hs2.out hb2'.out hw3).2
      clear hw3
      rw [i1]
      clear i1
      go_wp2_with fail
      refine (put_any _ b S k ts A n c (Nat.le_of_lt hk) hS hn hs3.out 5 m (by omega) _).mono ?_
      rintro e w6 ⟨rfl, ⟨A', c', hs6⟩, hb6⟩
      have hs6' := Lib.hid hs6
      have hb6' := Lib.hid (hb3.out.trans hb6)
      clear hs6 hb6
      go_wp2_with fail
      go_ret
      exact Step.tok_ (by rw [hwd2.out, if_pos trivial, if_pos hmem'.out]) hs6'.out hb6'.out
    · have i1 : decide (T ∈ ops) = false := by simpa using hmem
      have hmem' := Lib.hid hmem
      clear hmem
      go_wp2_with fail
      refine (contains_any _ 4 ops T _ rfl (by omega) ?_).mono ?_
      · intro j z hz
        obtain rfl | rfl | rfl | rfl : j = 0 ∨ j = 1 ∨ j = 2 ∨ j = 3 := by
          have := (List.getElem?_eq_some_iff.1 hz).1
          have hl : ops.length = 4 := rfl
          omega
        all_goals (injection hz with hz; subst hz; go_simp; rfl)
      rintro e w3 ⟨rfl, hw3⟩
      have hs3 := Lib.hid (sc_alloc hs2.out hb2'.out hw3).1
      have hb3 := Lib.hid (sc_alloc hs2.out hb2'.out hw3).2
      clear hw3
      rw [i1]
      clear i1
      go_wp2_with fail
      go_ret
      exact Step.bad_ (by rw [hwd2.out, if_pos trivial, if_neg hmem'.out]) hs3.out hb3.out
  | false =>
    have c0 := hs2.out.c0
    have c1 := hs2.out.c1
    go_wp2_with fail
    go_still_tail 11, (by kernel_rfl)
    change wpList _ _ _ _ _ w2.drew
    have hs4 := Lib.hid (hs2.out.below (bD (Below.refl _ w2)))
    have hb4 := Lib.hid (bD hb2'.out)
    generalize w2.drew = w4 at hs4 hb4 ⊢
    clear c0 c1
    go_wp2_with fail
    refine (trimLeft_any (S.drop (k + m)) w4).mono ?_
    rintro e w5 ⟨rfl, hb5⟩
    have hs5 := Lib.hid (hs4.out.below hb5)
    have hb5' := Lib.hid (hb4.out.trans (hb5.mono (Nat.le_of_lt hs4.out.lt)))
    clear hb5 t2 t3 t4 t5 t7 t8 t9 hcut hcut2
    obtain ⟨R, hR⟩ : ∃ R, skip (S.drop (k + m)) = R := ⟨_, rfl⟩
    rw [hR]
    have hwd3 : Hid (word false (S.drop k) m = .tok (wkind T (fol R)) T m) := by rw [hwd2.out, hR]; exact Lib.hid rfl
    clear hR hwd2
    have hp1 := hasPrefix_any R [58, 58] w5
    have hp2 := hasPrefix_any R [40] w5
    obtain ⟨P1, hP1⟩ : ∃ P1, Lib.hasPrefix R [58, 58] = P1 := ⟨_, rfl⟩
    obtain ⟨P2, hP2⟩ : ∃ P2, Lib.hasPrefix R [40] = P2 := ⟨_, rfl⟩
    rw [hP1] at hp1
    rw [hP2] at hp2
    have hfol : fol R = if P1 then 1 else if P2 then 2 else 0 := by rw [fol, hP1, hP2]
    have hwd4 : Hid (word false (S.drop k) m = .tok (wkind T (if P1 then 1 else if P2 then 2 else 0)) T m) := by rw [← hfol]; exact hwd3
    clear hfol hwd3 hP1 hP2
    go_wp2_with fail
    refine hp1.mono ?_
    rintro e wx ⟨rfl, hwx⟩
    rw [hwx]
    clear hwx wx hp1
    cases P1 with
    | true =>
      clear hp2
      go_wp2_with fail
      refine (put_any _ b S k ts A n c (Nat.le_of_lt hk) hS hn hs5.out 4 m (by omega) _).mono ?_
      rintro e w6 ⟨rfl, ⟨A', c', hs6⟩, hb6⟩
      have hs6' := Lib.hid hs6
      have hb6' := Lib.hid (hb5'.out.trans hb6)
      clear hs6 hb6
      go_wp2_with fail
      go_ret
      exact Step.tok_ (by rw [hwd4.out]; rfl) hs6'.out hb6'.out
    | false =>
      go_wp2_with fail
      refine hp2.mono ?_
      rintro e wx ⟨rfl, hwx⟩
      rw [hwx]
      clear hwx wx hp2
      cases P2 with
      | false =>
        go_wp2_with fail
        refine (put_any _ b S k ts A n c (Nat.le_of_lt hk) hS hn hs5.out 1 m (by omega) _).mono ?_
        rintro e w6 ⟨rfl, ⟨A', c', hs6⟩, hb6⟩
        have hs6' := Lib.hid hs6
        have hb6' := Lib.hid (hb5'.out.trans hb6)
        clear hs6 hb6
        go_wp2_with fail
        go_ret
        exact Step.tok_ (by rw [hwd4.out]; rfl) hs6'.out hb6'.out
      | true =>
        by_cases hmem : T ∈ types
        · have i1 : decide (T ∈ types) = true := by simpa using hmem
          have hmem' := Lib.hid hmem
          clear hmem
          go_wp2_with fail
          refine (contains_any _ 4 types T _ rfl (by omega) ?_).mono ?_
          · intro j z hz
            obtain rfl | rfl | rfl | rfl : j = 0 ∨ j = 1 ∨ j = 2 ∨ j = 3 := by
              have := (List.getElem?_eq_some_iff.1 hz).1
              have hl : types.length = 4 := rfl
              omega
            all_goals (injection hz with hz; subst hz; go_simp; rfl)
          rintro e w3 ⟨rfl, hw3⟩
          have hs3 := Lib.hid (sc_alloc hs5.out hb5'.out hw3).1
          have hb3 := Lib.hid (sc_alloc hs5.out hb5'.out hw3).2
          clear hw3
          rw [i1]
          clear i1
          go_wp2_with fail
          refine (put_any _ b S k ts A n c (Nat.le_of_lt hk) hS hn hs3.out 3 m (by omega) _).mono ?_
          rintro e w6 ⟨rfl, ⟨A', c', hs6⟩, hb6⟩
          have hs6' := Lib.hid hs6
          have hb6' := Lib.hid (hb3.out.trans hb6)
          clear hs6 hb6
          go_wp2_with fail
          go_ret
          exact Step.tok_ (by rw [hwd4.out]; simp only [wkind, Bool.false_eq_true, if_false, if_true]; rw [if_neg (by decide), if_pos hmem'.out]) hs6'.out hb6'.out
        · have i1 : decide (T ∈ types) = false := by simpa using hmem
          have hmem' := Lib.hid hmem
          clear hmem
          go_wp2_with fail
          refine (contains_any _ 4 types T _ rfl (by omega) ?_).mono ?_
          · intro j z hz
            obtain rfl | rfl | rfl | rfl : j = 0 ∨ j = 1 ∨ j = 2 ∨ j = 3 := by
              have := (List.getElem?_eq_some_iff.1 hz).1
              have hl : types.length = 4 := rfl
              omega
            all_goals (injection hz with hz; subst hz; go_simp; rfl)
          rintro e w3 ⟨rfl, hw3⟩
          have hs3 := Lib.hid (sc_alloc hs5.out hb5'.out hw3).1
          have hb3 := Lib.hid (sc_alloc hs5.out hb5'.out hw3).2
          clear hw3
          rw [i1]
          clear i1
          go_wp2_with fail
          refine (put_any _ b S k ts A n c (Nat.le_of_lt hk) hS hn hs3.out 2 m (by omega) _).mono ?_
          rintro e w6 ⟨rfl, ⟨A', c', hs6⟩, hb6⟩
          have hs6' := Lib.hid hs6
          have hb6' := Lib.hid (hb3.out.trans hb6)
          clear hs6 hb6
          go_wp2_with fail
          go_ret
          exact Step.tok_ (by rw [hwd4.out]; simp only [wkind, Bool.false_eq_true, if_false, if_true]; rw [if_neg (by decide), if_neg hmem'.out]) hs6'.out hb6'.out
end Go.Proofs.YthiikldjngamaaaDoor.Qx
