/- number. -/
import Derived.Test.YthiikldjngamaaaDoorQxNum
import Derived.StillTailTactics
namespace Go.Proofs.YthiikldjngamaaaDoor.Qx
open Go.RowKit UtfW

theorem wrap_nat (n : Nat) (h : n < 9223372036854775808) : IntKind.i64.wrap (n : Int) = (n : Int) := by
  have e : (n : Int) % 2 ^ 64 = n := Int.emod_eq_of_lt (by omega) (by omega)
  simp only [IntKind.wrap, IntKind.bits, IntKind.signed, e]
  rw [if_neg]
  simp
  omega
theorem number_none {r : List UInt8} (h : digits r = 0) (hx : r[0]? ≠ some 46) : number r = none := by
  unfold number
  rw [h, if_neg hx, if_pos rfl]
theorem number_int {r : List UInt8} {m : Nat} (h : digits r = m) (hx : r[m]? ≠ some 46) (hm : m ≠ 0) : number r = some m := by
  unfold number
  rw [h, if_neg hx, if_neg hm]

theorem number_pt_none {S : List UInt8} {k m p : Nat} (hm : digits (S.drop k) = m) (hp : digits (S.drop (k + m + 1)) = p) (hx : S[k + m]? = some 46) (hz : m + p = 0) : number (S.drop k) = none := by
  unfold number
  rw [hm, if_pos (by rw [List.getElem?_drop]; exact hx), List.drop_drop, show k + (m + 1) = k + m + 1 by omega, hp, if_pos hz]
theorem number_pt_some {S : List UInt8} {k m p : Nat} (hm : digits (S.drop k) = m) (hp : digits (S.drop (k + m + 1)) = p) (hx : S[k + m]? = some 46) (hz : ¬ m + p = 0) : number (S.drop k) = some (m + (1 + p)) := by
  unfold number
  rw [hm, if_pos (by rw [List.getElem?_drop]; exact hx), List.drop_drop, show k + (m + 1) = k + m + 1 by omega, hp, if_neg hz]

set_option maxHeartbeats 1000000 in
set_option maxRecDepth 100000 in
theorem number_any (w : World) (b : Nat) (S : List UInt8) (k : Nat) (ts : List Tok) (A : Option Addr) (n c : Nat) (hk : k < S.length) (hS : S.length ≤ 1000) (hn : n ≤ 1000) (h : Sc w b S k ts A n c) :
    Calls Tryd.prog 34 #[.pointer (some ⟨b, 0, none⟩)] w fun e w' =>
      (number (S.drop k) = none ∧ e = .returned (.bool false) ∧ Sc w' b S k ts A n c ∨ ∃ q, number (S.drop k) = some q ∧ e = .returned (.bool true) ∧ ∃ A' c', Sc w' b S (k + q) (ts ++ [(8, (k : Int), (S.drop k).take q)]) A' (n + 1) c') ∧ Below b w w' := by
  have hsz : (strOf S).size = S.length := strOf_size' S
  have c0 := h.c0
  have c1 := h.c1
  have hd0 := digits_any w b S k ts A n c hS h k (by omega)
  have h' := Lib.hid h
  clear h
  go_enter Tryd.func34, Tryd.ntmps34
  go_wp2_with fail
  refine hd0.mono ?_
  rintro e w1 ⟨rfl, rfl⟩
  obtain ⟨m, hm⟩ : ∃ m, digits (S.drop k) = m := ⟨_, rfl⟩
  have hle := digits_le (S.drop k)
  rw [List.length_drop] at hle
  rw [hm] at hle ⊢
  have hm' := Lib.hid hm
  clear hm hd0
  by_cases hin : k + m < S.length
  · have hx : S[k + m]? = some S[k + m] := List.getElem?_eq_getElem hin
    generalize S[k + m] = x at hx
    have hlt' : k + m < (strOf S).size := by rw [hsz]; exact hin
    have hg := str_at hx hlt'
    have i0 : decide ((k : Int) + (m : Int) < (S.length : Int)) = true := by simp; omega
    have hbd : 0 ≤ (k : Int) + (m : Int) ∧ (k : Int) + (m : Int) < (S.length : Int) := ⟨by omega, by omega⟩
    have hbt : ((k : Int) + (m : Int)).toNat = k + m := by omega
    have hx' := Lib.hid hx
    clear hx
    by_cases h46 : x = 46
    · subst h46
      have hP : ∀ q, _ := fun q => digits_any (w1.drewN q) b S k ts A n c hS (h'.out.below (Joins.below_draws _ w1 q)) (k + m + 1) (by omega)
      obtain ⟨p, hp⟩ : ∃ p, digits (S.drop (k + m + 1)) = p := ⟨_, rfl⟩
      have hle2 := digits_le (S.drop (k + m + 1))
      rw [List.length_drop] at hle2
      rw [hp] at hP hle2
      have hp' := Lib.hid hp
      clear hp
      go_wp2_with fail
      go_big_quiet (fail)
      go_wp2_with fail
      refine (hP nq).mono ?_
      rintro e w5 ⟨rfl, hw5⟩
      rw [hw5]
      clear hw5 w5 hP hbd hbt
      by_cases hz : m + p = 0
      · have hm1 : ((m : Int) + (p : Int) == 0) = true := by rw [beq_iff_eq]; omega
        have hz' := Lib.hid hz
        clear hz
        go_wp2_with fail
        go_ret
        refine ⟨.inl ⟨?_, rfl, h'.out.below (Joins.below_draws _ _ _)⟩, (Joins.below_draws _ _ _).mono (Nat.le_of_lt h'.out.lt)⟩
        exact number_pt_none hm'.out hp'.out hx'.out hz'.out
      · have hm1 : ((m : Int) + (p : Int) == 0) = false := by rw [beq_eq_false_iff_ne]; omega
        have hnum0 := Lib.hid (number_pt_some hm'.out hp'.out hx'.out hz)
        obtain ⟨q, hq0⟩ : ∃ q, m + (1 + p) = q := ⟨_, rfl⟩
        rw [hq0] at hnum0
        have hqle : k + q ≤ S.length ∧ 1 ≤ q := by omega
        have hq : (m : Int) + (1 + (p : Int)) = (q : Int) := by omega
        have hq9 : ((q : Int) == 0) = false := by rw [beq_eq_false_iff_ne]; omega
        clear hq0 hz
        have hcut : (strOf S).extract k (k + q) = strOf ((S.drop k).take q) := by rw [strOf_cut, Nat.add_sub_cancel_left]
        have hnum : number (S.drop k) = some q := hnum0.out
        go_wp2_with fail
        have hs1 := h'.out.below (Joins.below_draws _ w1 nq)
        have hb1 : Below b w1 (w1.drewN nq) := (Joins.below_draws _ _ _).mono (Nat.le_of_lt h'.out.lt)
        generalize w1.drewN nq = w2 at hs1 hb1 ⊢
        have c0 := hs1.c0
        have c1 := hs1.c1
        have hs2 := Lib.hid hs1
        have hb2 := Lib.hid hb1
        have hbd : (k : Int) + (q : Int) ≤ (S.length : Int) := by omega
        have hbt : ((k : Int) + (q : Int)).toNat = k + q := by omega
        have hbn : k + q ≤ S.length := by omega
        have hbk : k ≤ k + q := by omega
        have hbl : 0 ≤ (k : Int) + (q : Int) := by omega
        have hwr : IntKind.i64.wrap ((k : Int) + (q : Int)) = (k : Int) + (q : Int) := wrap_nat (k + q) (by omega)
        have hq1 : 0 ≤ (k : Int) + (q : Int) ∧ (k : Int) + (q : Int) ≤ (S.length : Int) := ⟨hbl, hbd⟩
        have hq2 : (k : Int) ≤ (k : Int) + (q : Int) := by omega
        clear hs1 hb1
        go_still_tail 17, (by kernel_rfl)
        change wpList _ _ _ _ _ w2.drew
        have hs3 := hs2.out.below (bD (Below.refl _ w2))
        have hb3 : Below b w1 w2.drew := bD hb2.out
        generalize w2.drew = w3 at hs3 hb3 ⊢
        have hs4 := Lib.hid hs3
        have hb4 := Lib.hid hb3
        clear hs3 hb3 c0 c1
        go_wp2_with fail
        refine (put_any w3 b S k ts A n c (by omega) hS hn hs4.out 8 q (by omega) _).mono ?_
        rintro e w5 ⟨rfl, ⟨A', c', hs5⟩, hb5⟩
        have hs6 := Lib.hid hs5
        have hb6 := Lib.hid (hb4.out.trans hb5)
        clear hs5 hb5
        go_wp2_with fail
        go_ret
        exact ⟨.inr ⟨q, hnum, rfl, A', c', hs6.out⟩, hb6.out⟩
    · have h46' : ((x.toNat : Int) == 46) = false := by
        rw [beq_eq_false_iff_ne]
        intro h
        exact h46 (UInt8.toNat_inj.1 (by show x.toNat = 46; omega))
      by_cases hm0 : m = 0
      · have hm1 : ((m : Int) == 0) = true := by rw [beq_iff_eq]; omega
        have hm0' := Lib.hid hm0
        clear hm0
        go_wp2_with fail
        go_big_quiet (fail)
        go_wp2_with fail
        go_ret
        refine ⟨.inl ⟨?_, rfl, h'.out.below (Joins.below_draws _ _ _)⟩, (Joins.below_draws _ _ _).mono (Nat.le_of_lt h'.out.lt)⟩
        exact number_none (hm'.out.trans hm0'.out) (by intro h; have hm0 := hm0'.out; subst hm0; rw [List.getElem?_drop, hx'.out] at h; injection h with h; exact h46 h)
      · have hm1 : ((m : Int) == 0) = false := by rw [beq_eq_false_iff_ne]; omega
        have hcut : (strOf S).extract k (k + m) = strOf ((S.drop k).take m) := by rw [strOf_cut, Nat.add_sub_cancel_left]
        have hnum : number (S.drop k) = some m := number_int hm'.out (by rw [List.getElem?_drop, hx'.out]; intro h; injection h with h; exact h46 h) hm0
        go_wp2_with fail
        go_big_quiet (fail)
        go_wp2_with fail
        have hs1 := h'.out.below (Joins.below_draws _ w1 nq)
        have hb1 : Below b w1 (w1.drewN nq) := (Joins.below_draws _ _ _).mono (Nat.le_of_lt h'.out.lt)
        generalize w1.drewN nq = w2 at hs1 hb1 ⊢
        have c0 := hs1.c0
        have c1 := hs1.c1
        have hs2 := Lib.hid hs1
        have hb2 := Lib.hid hb1
        clear hbd hbt
        have hbd : (k : Int) + (m : Int) ≤ (S.length : Int) := by omega
        have hbt : ((k : Int) + (m : Int)).toNat = k + m := by omega
        have hbn : k + m ≤ S.length := by omega
        have hbk : k ≤ k + m := by omega
        have hbl : 0 ≤ (k : Int) + (m : Int) := by omega
        have hwr : IntKind.i64.wrap ((k : Int) + (m : Int)) = (k : Int) + (m : Int) := wrap_nat (k + m) (by omega)
        have hq1 : 0 ≤ (k : Int) + (m : Int) ∧ (k : Int) + (m : Int) ≤ (S.length : Int) := ⟨hbl, hbd⟩
        have hq2 : (k : Int) ≤ (k : Int) + (m : Int) := by omega
        clear hs1 hb1
        go_still_tail 17, (by kernel_rfl)
        change wpList _ _ _ _ _ w2.drew
        have hs3 := hs2.out.below (bD (Below.refl _ w2))
        have hb3 : Below b w1 w2.drew := bD hb2.out
        generalize w2.drew = w3 at hs3 hb3 ⊢
        have hs4 := Lib.hid hs3
        have hb4 := Lib.hid hb3
        clear hs3 hb3 c0 c1
        go_wp2_with fail
        refine (put_any w3 b S k ts A n c (by omega) hS hn hs4.out 8 m (by omega) _).mono ?_
        rintro e w5 ⟨rfl, ⟨A', c', hs5⟩, hb5⟩
        have hs6 := Lib.hid hs5
        have hb6 := Lib.hid (hb4.out.trans hb5)
        clear hs5 hb5
        go_wp2_with fail
        go_ret
        exact ⟨.inr ⟨m, hnum, rfl, A', c', hs6.out⟩, hb6.out⟩
  · have i0 : decide ((k : Int) + (m : Int) < (S.length : Int)) = false := by simp; omega
    by_cases hm0 : m = 0
    · omega
    · have hm1 : ((m : Int) == 0) = false := by rw [beq_eq_false_iff_ne]; omega
      have hcut : (strOf S).extract k (k + m) = strOf ((S.drop k).take m) := by rw [strOf_cut, Nat.add_sub_cancel_left]
      have hnum : number (S.drop k) = some m := number_int hm'.out (by rw [List.getElem?_drop, List.getElem?_eq_none (by omega)]; simp) hm0
      go_wp2_with fail
      go_big_quiet (fail)
      go_wp2_with fail
      have hs1 := h'.out.below (Joins.below_draws _ w1 nq)
      have hb1 : Below b w1 (w1.drewN nq) := (Joins.below_draws _ _ _).mono (Nat.le_of_lt h'.out.lt)
      generalize w1.drewN nq = w2 at hs1 hb1 ⊢
      have c0 := hs1.c0
      have c1 := hs1.c1
      have hs2 := Lib.hid hs1
      have hb2 := Lib.hid hb1
      have hbd : (k : Int) + (m : Int) ≤ (S.length : Int) := by omega
      have hbt : ((k : Int) + (m : Int)).toNat = k + m := by omega
      have hbn : k + m ≤ S.length := by omega
      have hbk : k ≤ k + m := by omega
      have hbl : 0 ≤ (k : Int) + (m : Int) := by omega
      have hwr : IntKind.i64.wrap ((k : Int) + (m : Int)) = (k : Int) + (m : Int) := wrap_nat (k + m) (by omega)
      have hq1 : 0 ≤ (k : Int) + (m : Int) ∧ (k : Int) + (m : Int) ≤ (S.length : Int) := ⟨hbl, hbd⟩
      have hq2 : (k : Int) ≤ (k : Int) + (m : Int) := by omega
      clear hs1 hb1
      go_still_tail 17, (by kernel_rfl)
      change wpList _ _ _ _ _ w2.drew
      have hs3 := hs2.out.below (bD (Below.refl _ w2))
      have hb3 : Below b w1 w2.drew := bD hb2.out
      generalize w2.drew = w3 at hs3 hb3 ⊢
      have hs4 := Lib.hid hs3
      have hb4 := Lib.hid hb3
      clear hs3 hb3 c0 c1
      go_wp2_with fail
      refine (put_any w3 b S k ts A n c (by omega) hS hn hs4.out 8 m (by omega) _).mono ?_
      rintro e w5 ⟨rfl, ⟨A', c', hs5⟩, hb5⟩
      have hs6 := Lib.hid hs5
      have hb6 := Lib.hid (hb4.out.trans hb5)
      clear hs5 hb5
      go_wp2_with fail
      go_ret
      exact ⟨.inr ⟨m, hnum, rfl, A', c', hs6.out⟩, hb6.out⟩
end Go.Proofs.YthiikldjngamaaaDoor.Qx
