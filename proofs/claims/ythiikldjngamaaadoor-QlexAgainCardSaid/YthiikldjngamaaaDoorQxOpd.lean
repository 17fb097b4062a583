/- operand, quoted, variable. -/
import Derived.Test.YthiikldjngamaaaDoorQxName
import Derived.Test.YthiikldjngamaaaDoorQxNum2
namespace Go.Proofs.YthiikldjngamaaaDoor.Qx
open Go.RowKit UtfW

/-- What a step of the scanner gives. -/
def Step (b : Nat) (S : List UInt8) (k : Nat) (ts : List Tok) (A : Option Addr) (n c : Nat) (R : Res) (w : World) (e : Ending) (w' : World) : Prop :=
  Below b w w' ∧ match R with
  | .bad cd => e = .returned (.int .i64 cd) ∧ Sc w' b S k ts A n c
  | .tok kd tx m => e = .returned (.int .i64 0) ∧ ∃ A' c', Sc w' b S (k + m) (ts ++ [(kd, (k : Int), tx)]) A' (n + 1) c'

theorem Step.bad_ {b k n c : Nat} {S : List UInt8} {ts : List Tok} {A : Option Addr} {R : Res} {w w' : World} {cd : Int} (hR : R = .bad cd) (hs : Sc w' b S k ts A n c) (hb : Below b w w') : Step b S k ts A n c R w (.returned (.int .i64 cd)) w' := by
  subst hR
  exact ⟨hb, rfl, hs⟩
theorem Step.tok_ {b k n c m c' : Nat} {S tx : List UInt8} {ts : List Tok} {A A' : Option Addr} {R : Res} {w w' : World} {kd : Int} (hR : R = .tok kd tx m) (hs : Sc w' b S (k + m) (ts ++ [(kd, (k : Int), tx)]) A' (n + 1) c') (hb : Below b w w') : Step b S k ts A n c R w (.returned (.int .i64 0)) w' := by
  subst hR
  exact ⟨hb, rfl, A', c', hs⟩

theorem drop_cons {S t : List UInt8} {k : Nat} {q : UInt8} (h : S.drop k = q :: t) : k < S.length ∧ S[k]? = some q ∧ S.drop (k + 1) = t ∧ t.length + (k + 1) = S.length := by
  have hk : k < S.length := by
    rcases Nat.lt_or_ge k S.length with hk | hk
    · exact hk
    · rw [List.drop_eq_nil_of_le hk] at h
      cases h
  rw [List.drop_eq_getElem_cons hk] at h
  injection h with h1 h2
  refine ⟨hk, by rw [List.getElem?_eq_getElem hk, h1], h2, ?_⟩
  rw [← h2, List.length_drop]
  omega

set_option maxHeartbeats 1000000 in
set_option maxRecDepth 100000 in
theorem quoted_any (w : World) (b : Nat) (S : List UInt8) (k : Nat) (ts : List Tok) (A : Option Addr) (n c : Nat) (hS : S.length ≤ 1000) (hn : n ≤ 1000) (h : Sc w b S k ts A n c) (q : UInt8) (t : List UInt8) (hq : S.drop k = q :: t) :
    Calls Tryd.prog 30 #[.pointer (some ⟨b, 0, none⟩)] w (Step b S k ts A n c (quoted q t) w) := by
  have hsz : (strOf S).size = S.length := strOf_size' S
  have c0 := h.c0
  have c1 := h.c1
  obtain ⟨hk, hx, ht, htl⟩ := drop_cons hq
  have hlt' : k < (strOf S).size := by rw [hsz]; exact hk
  have hg := str_at hx hlt'
  have hcut := cut_end S (k + 1)
  rw [ht] at hcut
  have hc : ∀ m, _ := fun m => indexByte_any t q (w.drewN m)
  have hilt := indexByte_lt t q
  obtain ⟨I, hI⟩ : ∃ I, Lib.indexByte t q = I := ⟨_, rfl⟩
  rw [hI] at hc hilt
  have hI' := Lib.hid hI
  have hx' := Lib.hid hx
  have ht' := Lib.hid ht
  have htl' := Lib.hid htl
  have h' := Lib.hid h
  have hq' := Lib.hid hq
  have s1 : (k : Int) + 1 ≤ (S.length : Int) := by omega
  have s2 : ((k : Int) + 1).toNat = k + 1 := by omega
  have s3 : 0 ≤ (k : Int) + 1 := by omega
  have s4 : IntKind.i64.wrap ((k : Int) + 1) = (k : Int) + 1 := wrap_nat (k + 1) (by omega)
  have s5 : 0 ≤ (k : Int) ∧ (k : Int) < (S.length : Int) := ⟨by omega, by omega⟩
  have s6 : 0 ≤ (k : Int) + 1 ∧ (k : Int) + 1 ≤ (S.length : Int) := ⟨by omega, by omega⟩
  clear hI hx ht htl h hq
  go_enter Tryd.func30, Tryd.ntmps30
  go_wp2_with fail
  go_big_quiet ((go_at_call 42; exact Calls.quiet_of_same (hc _)))
  by_cases hneg : I < 0
  · have d0 : decide (I < 0) = true := by simp; omega
    go_wp2_with fail
    go_ret
    refine Step.bad_ ?_ (h'.out.below (Joins.below_draws _ _ _)) ((Joins.below_draws _ _ _).mono (Nat.le_of_lt h'.out.lt))
    unfold quoted
    rw [hI'.out, if_pos hneg]
  · obtain ⟨j, rfl⟩ : ∃ j : Nat, I = (j : Int) := ⟨I.toNat, by omega⟩
    have d0 : decide ((j : Int) < 0) = false := by simp
    have hjl : k + 1 + j ≤ S.length := by have := htl'.out; omega
    have hR : quoted q t = .tok 7 (t.take j) (j + 2) := by
      unfold quoted
      rw [hI'.out, if_neg hneg]
      rfl
    have hR' := Lib.hid hR
    clear hR hneg
    go_wp2_with fail
    have hs1 := h'.out.below (Joins.below_draws _ w nq)
    have hb1 : Below b w (w.drewN nq) := (Joins.below_draws _ _ _).mono (Nat.le_of_lt h'.out.lt)
    generalize w.drewN nq = w2 at hs1 hb1 ⊢
    have c0 := hs1.c0
    have c1 := hs1.c1
    have hs2 := Lib.hid hs1
    have hb2 := Lib.hid hb1
    obtain ⟨m, hm⟩ : ∃ m, j + 2 = m := ⟨_, rfl⟩
    have hR2 : Hid (quoted q t = .tok 7 (t.take j) m) := by rw [← hm]; exact hR'
    have t0 : (j : Int) + 2 = (m : Int) := by omega
    have t1 : IntKind.i64.wrap (m : Int) = (m : Int) := wrap_nat m (by omega)
    have t2 : IntKind.i64.wrap ((k : Int) + 1 + (j : Int)) = (k : Int) + 1 + (j : Int) := wrap_nat (k + 1 + j) (by omega)
    have t3 : ((k : Int) + 1 + (j : Int)).toNat = k + 1 + j := by omega
    have t4 : 0 ≤ (k : Int) + 1 + (j : Int) ∧ (k : Int) + 1 + (j : Int) ≤ (S.length : Int) := ⟨by omega, by omega⟩
    have t5 : (k : Int) + 1 ≤ (k : Int) + 1 + (j : Int) := by omega
    have t6 : k + 1 + j ≤ S.length := by omega
    have t7 : k + 1 ≤ k + 1 + j := by omega
    have t8 : 0 ≤ (k : Int) + 1 + (j : Int) := by omega
    have t9 : (k : Int) + 1 + (j : Int) ≤ (S.length : Int) := by omega
    have hcut2 : (strOf S).extract (k + 1) (k + 1 + j) = strOf (t.take j) := by rw [strOf_cut, Nat.add_sub_cancel_left, ht'.out]
    have hm' : m ≤ 2000 := by omega
    clear hs1 hb1 hm
    go_still_tail 20, (by kernel_rfl)
    change wpList _ _ _ _ _ w2.drew
    have hs3 := hs2.out.below (bD (Below.refl _ w2))
    have hb3 : Below b w w2.drew := bD hb2.out
    generalize w2.drew = w3 at hs3 hb3 ⊢
    have hs4 := Lib.hid hs3
    have hb4 := Lib.hid hb3
    clear hs3 hb3 c0 c1
    go_wp2_with fail
    refine (put_any w3 b S k ts A n c (Nat.le_of_lt hk) hS hn hs4.out 7 m hm' _).mono ?_
    rintro e w5 ⟨rfl, ⟨A', c', hs5⟩, hb5⟩
    have hs6 := Lib.hid hs5
    have hb6 := Lib.hid (hb4.out.trans hb5)
    clear hs5 hb5
    go_wp2_with fail
    go_ret
    exact Step.tok_ hR2.out hs6.out hb6.out

end Go.Proofs.YthiikldjngamaaaDoor.Qx
