/- token. -/
import Derived.Test.YthiikldjngamaaaDoorQxSign
namespace Go.Proofs.YthiikldjngamaaaDoor.Qx
open Go.RowKit UtfW

theorem Step.ret {b k n c : Nat} {S : List UInt8} {ts : List Tok} {A : Option Addr} {R : Res} {w w' : World} {e : Ending} (h : Step b S k ts A n c R w e w') : ∃ v, e = .returned (.int .i64 v) := by
  obtain ⟨_, h⟩ := h
  cases R with
  | bad cd => exact ⟨_, h.1⟩
  | tok kd tx m => exact ⟨_, h.1⟩
theorem Step.on {b k n c : Nat} {S : List UInt8} {ts : List Tok} {A : Option Addr} {R : Res} {w w1 w' : World} {e : Ending} (h : Step b S k ts A n c R w1 e w') (hb : Below b w w1) : Step b S k ts A n c R w e w' :=
  ⟨hb.trans h.1, h.2⟩
theorem byte_is (c : UInt8) (n : Nat) (hn : n < 256) : ((c.toNat : Int) == (n : Int)) = decide (c = UInt8.ofNat n) := by
  rw [Bool.eq_iff_iff, beq_iff_eq, decide_eq_true_eq]
  constructor
  · exact fun h => byte_of hn h
  · rintro rfl
    simp
    omega

set_option maxHeartbeats 4000000 in
set_option maxRecDepth 100000 in
theorem tokenC_any (w : World) (b : Nat) (S : List UInt8) (k : Nat) (ts : List Tok) (A : Option Addr) (n c : Nat) (hk : k < S.length) (hS : S.length ≤ 1000) (hn : n ≤ 1000) (h : Sc w b S k ts A n c) (q : UInt8) (hq : S[k]? = some q) :
    Calls Tryd.prog 20 #[.pointer (some ⟨b, 0, none⟩)] w (Step b S k ts A n c (tokenC (opd ts) q (S.drop (k + 1))) w) := by
  have hsz : (strOf S).size = S.length := strOf_size' S
  have c0 := h.c0
  have c1 := h.c1
  have hd : S.drop k = q :: S.drop (k + 1) := by
    rw [List.drop_eq_getElem_cons hk]
    rw [List.getElem?_eq_getElem hk] at hq
    injection hq with hq
    rw [hq]
  have hlt' : k < (strOf S).size := by rw [hsz]; exact hk
  have hg := str_at hq hlt'
  have s5 : 0 ≤ (k : Int) ∧ (k : Int) < (S.length : Int) := ⟨by omega, by omega⟩
  have hd' := Lib.hid hd
  have h' := Lib.hid h
  clear h hd hq
  have b34 : ((q.toNat : Int) == 34) = decide (q = 34) := byte_is q 34 (by omega)
  have b39 : ((q.toNat : Int) == 39) = decide (q = 39) := byte_is q 39 (by omega)
  have b36 : ((q.toNat : Int) == 36) = decide (q = 36) := byte_is q 36 (by omega)
  have b42 : ((q.toNat : Int) == 42) = decide (q = 42) := byte_is q 42 (by omega)
  have b46 : ((q.toNat : Int) == 46) = decide (q = 46) := byte_is q 46 (by omega)
  go_enter Tryd.func20, Tryd.ntmps20
  go_wp2_with fail
  go_big_quiet (fail)
  have hs1 := Lib.hid (h'.out.below (Joins.below_draws _ w nq))
  have hb1 : Hid (Below b w (w.drewN nq)) := Lib.hid ((Joins.below_draws _ _ _).mono (Nat.le_of_lt h'.out.lt))
  generalize w.drewN nq = w1 at hs1 hb1 ⊢
  clear c0 c1
  by_cases h34 : q = 34
  · have i34 : decide (q = 34) = true := by simpa using h34
    rw [i34] at b34
    have h34' := Lib.hid h34
    clear h34 i34
    go_wp2_with fail
    refine (quoted_any w1 b S k ts A n c hS hn hs1.out q (S.drop (k + 1)) hd'.out).mono ?_
    intro e w6 hst
    obtain ⟨v, rfl⟩ := hst.ret
    have hst' := Lib.hid (hst.on hb1.out)
    clear hst
    go_wp2_with fail
    go_ret
    rw [tokenC, if_pos (Or.inl h34'.out)]
    exact hst'.out
  · have i34 : decide (q = 34) = false := by simpa using h34
    rw [i34] at b34
    clear i34
    have h34' := Lib.hid h34
    clear h34
    by_cases h39 : q = 39
    · have i39 : decide (q = 39) = true := by simpa using h39
      rw [i39] at b39
      have h39' := Lib.hid h39
      clear h39 i39
      go_wp2_with fail
      refine (quoted_any w1 b S k ts A n c hS hn hs1.out q (S.drop (k + 1)) hd'.out).mono ?_
      intro e w6 hst
      obtain ⟨v, rfl⟩ := hst.ret
      have hst' := Lib.hid (hst.on hb1.out)
      clear hst
      go_wp2_with fail
      go_ret
      rw [tokenC, if_pos (Or.inr h39'.out)]
      exact hst'.out
    · have i39 : decide (q = 39) = false := by simpa using h39
      rw [i39] at b39
      clear i39
      have hno : Hid (¬ (q = 34 ∨ q = 39)) := Lib.hid (by rintro (h | h); exact h34'.out h; exact h39 h)
      clear h39
      by_cases h36 : q = 36
      · have i36 : decide (q = 36) = true := by simpa using h36
        rw [i36] at b36
        have h36' := Lib.hid h36
        clear h36 i36
        go_wp2_with fail
        refine (variable_any w1 b S k ts A n c hS hn hs1.out q (S.drop (k + 1)) hd'.out).mono ?_
        intro e w6 hst
        obtain ⟨v, rfl⟩ := hst.ret
        have hst' := Lib.hid (hst.on hb1.out)
        clear hst
        go_wp2_with fail
        go_ret
        rw [tokenC, if_neg hno.out, if_pos h36'.out]
        exact hst'.out
      · have i36 : decide (q = 36) = false := by simpa using h36
        rw [i36] at b36
        clear i36
        have h36' := Lib.hid h36
        clear h36
        by_cases h42 : q = 42
        · have i42 : decide (q = 42) = true := by simpa using h42
          rw [i42] at b42
          have h42' := Lib.hid h42
          clear h42 i42
          go_wp2_with fail
          refine (operand_any w1 b S k ts A n c hn hs1.out).mono ?_
          rintro e w2 ⟨rfl, hb2⟩
          have hs2 := Lib.hid (hs1.out.below hb2)
          have hb2' := Lib.hid (hb1.out.trans (hb2.mono (Nat.le_of_lt hs1.out.lt)))
          have hR : tokenC (opd ts) q (S.drop (k + 1)) = .tok (if opd ts then 5 else 1) [42] 1 := by rw [tokenC, if_neg hno.out, if_neg h36'.out, if_pos h42'.out]
          have hR' := Lib.hid hR
          clear hb2 hR
          cases hO : opd ts with
          | true =>
            have hO' := Lib.hid hO
            clear hO
            go_wp2_with fail
            refine (put_any _ b S k ts A n c (Nat.le_of_lt hk) hS hn hs2.out 5 1 (by omega) [42]).mono ?_
            rintro e w6 ⟨rfl, ⟨A', c', hs6⟩, hb6⟩
            have hs6' := Lib.hid hs6
            have hb6' := Lib.hid (hb2'.out.trans hb6)
            clear hs6 hb6
            go_wp2_with fail
            go_ret
            exact Step.tok_ (by rw [hR'.out, hO'.out]; rfl) hs6'.out hb6'.out
          | false =>
            have hO' := Lib.hid hO
            clear hO
            go_wp2_with fail
            refine (put_any _ b S k ts A n c (Nat.le_of_lt hk) hS hn hs2.out 1 1 (by omega) [42]).mono ?_
            rintro e w6 ⟨rfl, ⟨A', c', hs6⟩, hb6⟩
            have hs6' := Lib.hid hs6
            have hb6' := Lib.hid (hb2'.out.trans hb6)
            clear hs6 hb6
            go_wp2_with fail
            go_ret
            exact Step.tok_ (by rw [hR'.out, hO'.out]; rfl) hs6'.out hb6'.out
        · have i42 : decide (q = 42) = false := by simpa using h42
          rw [i42] at b42
          clear i42
          have h42' := Lib.hid h42
          clear h42
          by_cases hnm : q = 46 ∨ dig q = true
          · have hnum : Hid (tokenC (opd ts) q (S.drop (k + 1)) = match number (S.drop k) with | some n => .tok 8 ((S.drop k).take n) n | none => rest_ (opd ts) (S.drop k)) := Lib.hid (by rw [tokenC, if_neg hno.out, if_neg h36'.out, if_neg h42'.out, if_pos hnm, hd'.out]; cases number (q :: S.drop (k + 1)) <;> rfl)
            have hway : (((q.toNat : Int) == 46) = true) ∨ (((q.toNat : Int) == 46) = false ∧ decide ((48 : Int) ≤ (q.toNat : Int)) = true ∧ decide ((q.toNat : Int) ≤ 57) = true) := by
              rw [b46]
              by_cases h46 : q = 46
              · exact .inl (by simpa using h46)
              · have := dig_range (hnm.resolve_left h46)
                exact .inr ⟨by simpa using h46, by simp; omega, by simp; omega⟩
            clear b46 hnm
            rcases hway with e1 | ⟨e1, e2, e3⟩
            all_goals
              go_wp2_with fail
              refine (number_any w1 b S k ts A n c hk hS hn hs1.out).mono ?_
              rintro e w2 ⟨hst, hb2⟩
              have hb2' := Lib.hid (hb1.out.trans hb2)
              clear hb2
              rcases hst with ⟨hn0, rfl, hs2⟩ | ⟨m, hn0, rfl, A', c', hs2⟩
              · have hs2' := Lib.hid hs2
                have hn0' := Lib.hid hn0
                clear hs2 hn0
                go_wp2_with fail
                refine (name_any w2 b S k ts A n c (Nat.le_of_lt hk) hS hs2'.out).mono ?_
                rintro e w7 ⟨rfl, hb7⟩
                have hs7 := Lib.hid (hs2'.out.below hb7)
                have hb7' := Lib.hid (hb2'.out.trans (hb7.mono (Nat.le_of_lt hs2'.out.lt)))
                have hml : nameL (S.drop k) ≤ (S.drop k).length := nameF_le ((S.drop k).length + 1) true (S.drop k)
                rw [List.length_drop] at hml
                obtain ⟨m, hm⟩ : ∃ m, nameL (S.drop k) = m := ⟨_, rfl⟩
                rw [hm] at hml ⊢
                have hm' := Lib.hid hm
                clear hm hb7
                by_cases h0 : m = 0
                · have i0 : decide (0 < m) = false := by simp; omega
                  have h0' := Lib.hid h0
                  clear h0
                  go_wp2_with fail
                  refine (sign_any w7 b S k ts A n c hk hS hn hs7.out).mono ?_
                  intro e w6 hst
                  obtain ⟨v, rfl⟩ := hst.ret
                  have hst' := Lib.hid (hst.on hb7'.out)
                  clear hst
                  go_wp2_with fail
                  go_ret
                  have e9 : tokenC (opd ts) q (S.drop (k + 1)) = sign (S.drop k) := by
                    rw [hnum.out, hn0'.out]
                    unfold rest_
                    rw [hm'.out, if_neg (by rw [h0'.out]; omega)]
                  rw [e9]
                  exact hst'.out
                · have i0 : decide (0 < m) = true := by simp; omega
                  have h0' := Lib.hid h0
                  clear h0
                  go_wp2_with fail
                  refine (word_any w7 b S k ts A n c hk hS hn hs7.out m (by omega)).mono ?_
                  intro e w6 hst
                  obtain ⟨v, rfl⟩ := hst.ret
                  have hst' := Lib.hid (hst.on hb7'.out)
                  clear hst
                  go_wp2_with fail
                  go_ret
                  have e9 : tokenC (opd ts) q (S.drop (k + 1)) = word (opd ts) (S.drop k) m := by
                    rw [hnum.out, hn0'.out]
                    unfold rest_
                    have := h0'.out
                    rw [hm'.out, if_pos (by omega)]
                  rw [e9]
                  exact hst'.out
              · have hs2' := Lib.hid hs2
                have hn0' := Lib.hid hn0
                clear hs2 hn0
                go_wp2_with fail
                go_ret
                exact Step.tok_ (by rw [hnum.out, hn0'.out]) hs2'.out hb2'.out
          · have hre : Hid (tokenC (opd ts) q (S.drop (k + 1)) = rest_ (opd ts) (S.drop k)) := Lib.hid (by rw [tokenC, if_neg hno.out, if_neg h36'.out, if_neg h42'.out, if_neg hnm, hd'.out])
            have i46 : ((q.toNat : Int) == 46) = false := by rw [b46]; simp; intro h; exact hnm (.inl h)
            have hway : decide ((48 : Int) ≤ (q.toNat : Int)) = false ∨ (decide ((48 : Int) ≤ (q.toNat : Int)) = true ∧ decide ((q.toNat : Int) ≤ 57) = false) := by
              have : dig q ≠ true := fun h => hnm (.inr h)
              unfold dig at this
              cases h1 : decide ((48 : Int) ≤ (q.toNat : Int))
              · exact .inl rfl
              · rw [h1] at this
                exact .inr ⟨rfl, by simpa using this⟩
            clear b46 hnm
            rcases hway with e2 | ⟨e2, e3⟩
            all_goals
              go_wp2_with fail
              refine (name_any w1 b S k ts A n c (Nat.le_of_lt hk) hS hs1.out).mono ?_
              rintro e w7 ⟨rfl, hb7⟩
              have hs7 := Lib.hid (hs1.out.below hb7)
              have hb7' := Lib.hid (hb1.out.trans (hb7.mono (Nat.le_of_lt hs1.out.lt)))
              have hml : nameL (S.drop k) ≤ (S.drop k).length := nameF_le ((S.drop k).length + 1) true (S.drop k)
              rw [List.length_drop] at hml
              obtain ⟨m, hm⟩ : ∃ m, nameL (S.drop k) = m := ⟨_, rfl⟩
              rw [hm] at hml ⊢
              have hm' := Lib.hid hm
              clear hm hb7
              by_cases h0 : m = 0
              · have i0 : decide (0 < m) = false := by simp; omega
                have h0' := Lib.hid h0
                clear h0
                go_wp2_with fail
                refine (sign_any w7 b S k ts A n c hk hS hn hs7.out).mono ?_
                intro e w6 hst
                obtain ⟨v, rfl⟩ := hst.ret
                have hst' := Lib.hid (hst.on hb7'.out)
                clear hst
                go_wp2_with fail
                go_ret
                have e9 : tokenC (opd ts) q (S.drop (k + 1)) = sign (S.drop k) := by
                  rw [hre.out]
                  unfold rest_
                  rw [hm'.out, if_neg (by rw [h0'.out]; omega)]
                rw [e9]
                exact hst'.out
              · have i0 : decide (0 < m) = true := by simp; omega
                have h0' := Lib.hid h0
                clear h0
                go_wp2_with fail
                refine (word_any w7 b S k ts A n c hk hS hn hs7.out m (by omega)).mono ?_
                intro e w6 hst
                obtain ⟨v, rfl⟩ := hst.ret
                have hst' := Lib.hid (hst.on hb7'.out)
                clear hst
                go_wp2_with fail
                go_ret
                have e9 : tokenC (opd ts) q (S.drop (k + 1)) = word (opd ts) (S.drop k) m := by
                  rw [hre.out]
                  unfold rest_
                  have := h0'.out
                  rw [hm'.out, if_pos (by omega)]
                rw [e9]
                exact hst'.out

theorem token_any (w : World) (b : Nat) (S : List UInt8) (k : Nat) (ts : List Tok) (A : Option Addr) (n c : Nat) (hk : k < S.length) (hS : S.length ≤ 1000) (hn : n ≤ 1000) (h : Sc w b S k ts A n c) :
    Calls Tryd.prog 20 #[.pointer (some ⟨b, 0, none⟩)] w (Step b S k ts A n c (token (opd ts) (S.drop k)) w) := by
  have := tokenC_any w b S k ts A n c hk hS hn h S[k] (List.getElem?_eq_getElem hk)
  rw [List.drop_eq_getElem_cons hk, token_cons]
  exact this
end Go.Proofs.YthiikldjngamaaaDoor.Qx
