/- A token that is written out again, with a blank behind it, is the same token. -/
import Derived.Test.YthiikldjngamaaaDoorQxVal
namespace Go.Proofs.YthiikldjngamaaaDoor.Qx
open Go.RowKit UtfW

/-- A token written out. -/
def rend (kd : Int) (tx : List UInt8) : List UInt8 :=
  if kd = 9 then 36 :: tx else if kd = 7 ∧ (34 : UInt8) ∈ tx then 39 :: (tx ++ [39]) else if kd = 7 then 34 :: (tx ++ [34]) else tx

theorem hasPrefix_iff (r p : List UInt8) : Lib.hasPrefix r p = true ↔ ∃ b, r = p ++ b := by
  unfold Lib.hasPrefix
  rw [List.isPrefixOf_iff_prefix]
  exact ⟨fun ⟨b, h⟩ => ⟨b, h.symm⟩, fun ⟨b, h⟩ => ⟨b, h.symm⟩⟩

theorem fol_other {c : UInt8} (h1 : c ≠ 58) (h2 : c ≠ 40) (t : List UInt8) : fol (c :: t) = 0 := by
  unfold fol Lib.hasPrefix
  have e1 : (58 == c) = false := by rw [beq_eq_false_iff_ne]; exact fun h => h1 h.symm
  have e2 : (40 == c) = false := by rw [beq_eq_false_iff_ne]; exact fun h => h2 h.symm
  simp [List.isPrefixOf, e1, e2]

theorem skip_of {c : UInt8} (h : blank c = false) (t : List UInt8) : skip (c :: t) = c :: t := by
  unfold skip
  rw [List.dropWhile_cons, h]
  rfl
theorem skip_head {r t : List UInt8} {c : UInt8} (h : skip r = c :: t) : blank c = false := by
  unfold skip at h
  induction r with
  | nil => cases h
  | cons b r ih =>
    rw [List.dropWhile_cons] at h
    split at h
    · exact ih h
    · rename_i hb
      injection h with h _
      subst h
      simpa using hb

theorem skip_V {r : List UInt8} (h : V r) : V (skip r) := by
  have h1 := takeWhile_all blank r
  have h2 := List.take_append_drop (r.takeWhile blank).length r
  rw [takeWhile_take, ← skip_drop] at h2
  rw [← h2] at h
  refine V.drop h fun c hc => ?_
  have := h1 c hc
  unfold blank Blank at this
  rw [decide_eq_true_eq] at this
  omega

theorem V.drop_ascii {r : List UInt8} (h : V r) (n : Nat) (ha : ∀ c ∈ r.take n, c.toNat < 128) : V (r.drop n) := by
  have h2 := List.take_append_drop n r
  rw [← h2] at h
  exact V.drop h ha

theorem dig_range {c : UInt8} (h : dig c = true) : 48 ≤ c.toNat ∧ c.toNat ≤ 57 := by
  unfold dig at h
  simp only [Bool.and_eq_true, decide_eq_true_eq] at h
  omega
theorem char_dig {c : UInt8} (h : c = 46 ∨ dig c = true) : c.toNat < 128 ∧ Utf.Char (c.toNat : Nat) = true := by
  rcases h with rfl | h
  · decide
  · have := dig_range h
    refine ⟨by omega, ?_⟩
    unfold Utf.Char
    rw [decide_eq_true_eq]
    omega

theorem index_cut {t : List UInt8} {c : UInt8} (h : ¬ Lib.indexByte t c < 0) : ∃ b, t = t.take (Lib.indexByte t c).toNat ++ c :: b ∧ t.drop ((Lib.indexByte t c).toNat + 1) = b ∧ c ∉ t.take (Lib.indexByte t c).toNat := by
  induction t with
  | nil => exact absurd (show (-1 : Int) < 0 by decide) h
  | cons a t ih =>
    unfold Lib.indexByte at h ⊢
    split
    · rename_i hx
      have : a = c := by simpa using hx
      subst this
      exact ⟨t, by simp, by simp, by simp⟩
    · rename_i hx
      rw [if_neg hx] at h
      have hne : a ≠ c := by simpa using hx
      split at h
      · omega
      · rename_i hy
        rw [if_neg hy]
        have hge := Lib.indexByte_ge t c
        have hy' : Lib.indexByte t c ≠ -1 := by simpa using hy
        obtain ⟨b, h1, h2, h3⟩ := ih (by omega)
        have e : (Lib.indexByte t c + 1).toNat = (Lib.indexByte t c).toNat + 1 := by omega
        rw [e]
        refine ⟨b, ?_, ?_, ?_⟩
        · rw [List.take_succ_cons, List.cons_append, ← h1]
        · rw [List.drop_succ_cons, h2]
        · rw [List.take_succ_cons, List.mem_cons, not_or]
          exact ⟨fun e => hne e.symm, h3⟩
theorem index_of {tx : List UInt8} {c : UInt8} (h : c ∉ tx) (y : List UInt8) : Lib.indexByte (tx ++ c :: y) c = (tx.length : Nat) := by
  induction tx with
  | nil => simp [Lib.indexByte]
  | cons a tx ih =>
    rw [List.mem_cons, not_or] at h
    have hne : (a == c) = false := by rw [beq_eq_false_iff_ne]; exact fun e => h.1 e.symm
    rw [List.cons_append, Lib.indexByte, hne, ih h.2]
    have : ((tx.length : Int) == -1) = false := by rw [beq_eq_false_iff_ne]; omega
    rw [this]
    simp

theorem sign_inv {r tx : List UInt8} {kd : Int} {n : Nat} (h : sign r = .tok kd tx n) : (kd = 5 ∨ kd = 6) ∧ tx ∈ signs1 ++ signs2 ∧ n = tx.length ∧ (∃ b, r = tx ++ b) ∧ ∀ x, sign (tx ++ 32 :: x) = .tok kd tx n := by
  unfold sign at h
  split at h
  · rename_i p hp
    injection h with h1 h2 h3
    subst h1 h2 h3
    have m := List.mem_of_find?_eq_some hp
    refine ⟨.inl rfl, List.mem_append_left _ m, rfl, (hasPrefix_iff _ _).1 (List.find?_some hp), fun x => ?_⟩
    simp only [signs1, List.mem_cons, List.not_mem_nil, or_false] at m
    rcases m with rfl | rfl | rfl | rfl | rfl | rfl | rfl | rfl | rfl | rfl | rfl <;> rfl
  · rename_i hno
    split at h
    · rename_i p hp
      injection h with h1 h2 h3
      subst h1 h2 h3
      have m := List.mem_of_find?_eq_some hp
      refine ⟨.inr rfl, List.mem_append_right _ m, rfl, (hasPrefix_iff _ _).1 (List.find?_some hp), fun x => ?_⟩
      simp only [signs2, List.mem_cons, List.not_mem_nil, or_false] at m
      rcases m with rfl | rfl | rfl | rfl | rfl | rfl | rfl | rfl | rfl <;> rfl
    · cases h

theorem token_sign {tx : List UInt8} (h : tx ∈ signs1 ++ signs2) (op : Bool) (x : List UInt8) : token op (tx ++ 32 :: x) = sign (tx ++ 32 :: x) := by
  simp only [signs1, signs2, List.cons_append, List.nil_append, List.mem_cons, List.not_mem_nil, or_false] at h
  rcases h with rfl | rfl | rfl | rfl | rfl | rfl | rfl | rfl | rfl | rfl | rfl | rfl | rfl | rfl | rfl | rfl | rfl | rfl | rfl | rfl <;>
  · simp only [List.cons_append, List.nil_append, token_cons]
    unfold tokenC
    try simp only [show number (46 :: 46 :: 32 :: x) = none from rfl, show number (46 :: 32 :: x) = none from rfl]
    unfold rest_
    rw [nameL_zero _ (by decide) (by decide) (by decide)]
    rfl

/-- What a token is like that stands in a text. -/
structure Like (op : Bool) (r : List UInt8) (kd : Int) (tx : List UInt8) (n : Nat) : Prop where
  vt : V (rend kd tx)
  vr : V (r.drop n)
  le : (rend kd tx).length ≤ n
  hd : ∃ c t, rend kd tx = c :: t ∧ blank c = false
  fl : ∀ x, fol (rend kd tx ++ 32 :: x) = fol r
  ag : ∀ x, (fol (skip x) = fol (skip (r.drop n))) → token op (rend kd tx ++ 32 :: x) = .tok kd tx (rend kd tx).length

theorem skip_blank (x : List UInt8) : skip (32 :: x) = skip x := by
  unfold skip
  rw [List.dropWhile_cons, show blank 32 = true by decide]
  rfl

theorem rend_other {kd : Int} (h9 : kd ≠ 9) (h7 : kd ≠ 7) (tx : List UInt8) : rend kd tx = tx := by
  unfold rend
  rw [if_neg h9, if_neg (fun h => h7 h.1), if_neg h7]

theorem like_quote {op : Bool} {c : UInt8} {t tx : List UInt8} {kd : Int} {n : Nat} (hq : c = 34 ∨ c = 39) (hV : V (c :: t)) (h : quoted c t = .tok kd tx n) : Like op (c :: t) kd tx n := by
  unfold quoted at h
  split at h
  · cases h
  · rename_i hi
    injection h with h1 h2 h3
    obtain ⟨b, e1, e2, e3⟩ := index_cut hi
    have hlt := indexByte_lt t c
    rw [h2] at e1 e3
    have hc : c.toNat < 128 := by rcases hq with rfl | rfl <;> decide
    have hlen : n = tx.length + 2 := by
      rw [← h3, ← h2, List.length_take]
      omega
    have hdr : (c :: t).drop n = b := by
      rw [← h3, show (Lib.indexByte t c).toNat + 2 = ((Lib.indexByte t c).toNat + 1) + 1 by omega, List.drop_succ_cons, e2]
    subst h1
    have hVt := hV.tail hc
    rw [e1] at hVt
    obtain ⟨v1, v2⟩ := hVt.cut hc
    have hr : rend 7 tx = (if (34 : UInt8) ∈ tx then 39 else 34) :: (tx ++ [if (34 : UInt8) ∈ tx then 39 else 34]) := by
      unfold rend
      rw [if_neg (by decide)]
      by_cases hm : (34 : UInt8) ∈ tx
      · rw [if_pos ⟨rfl, hm⟩, if_pos hm]
      · rw [if_neg (fun h => hm h.2), if_neg hm, if_pos rfl]
    have hno : (if (34 : UInt8) ∈ tx then 39 else 34 : UInt8) ∉ tx := by
      split
      · rename_i hm
        rcases hq with rfl | rfl
        · exact absurd hm e3
        · exact e3
      · rename_i hm
        exact hm
    have hqq : (if (34 : UInt8) ∈ tx then 39 else 34 : UInt8) = 34 ∨ (if (34 : UInt8) ∈ tx then 39 else 34 : UInt8) = 39 := by
      split
      · exact .inr rfl
      · exact .inl rfl
    generalize (if (34 : UInt8) ∈ tx then 39 else 34 : UInt8) = q at *
    have vq : V [q] := by rcases hqq with rfl | rfl <;> exact V.one (by decide) (by decide)
    have hf : fol (c :: t) = 0 := by rcases hq with rfl | rfl <;> exact fol_other (by decide) (by decide) _
    refine ⟨by rw [hr]; exact V.append vq (V.append v1 vq), by rw [hdr]; exact v2, by rw [hr, hlen]; simp, ⟨q, _, hr, by rcases hqq with rfl | rfl <;> decide⟩, fun x => ?_, fun x _ => ?_⟩
    · rw [hr, hf]
      rcases hqq with rfl | rfl <;> exact fol_other (by decide) (by decide) _
    · rw [hr, List.cons_append, token_cons]
      unfold tokenC
      rw [if_pos hqq, List.append_assoc]
      show quoted q (tx ++ q :: 32 :: x) = _
      unfold quoted
      rw [index_of hno, if_neg (by omega), Int.toNat_natCast, List.take_append_of_le_length (Nat.le_refl _), List.take_length]
      simp

theorem like_var {op : Bool} {t tx : List UInt8} {kd : Int} {n : Nat} (hV : V (36 :: t)) (h : variable_ t = .tok kd tx n) : Like op (36 :: t) kd tx n := by
  unfold variable_ at h
  split at h
  · cases h
  · rename_i h0
    injection h with h1 h2 h3
    have hs := skip_V (hV.tail (by decide))
    have hsl := skip_len t
    have hle := nameF_le ((skip t).length + 1) true (skip t)
    change nameL (skip t) ≤ _ at hle
    obtain ⟨v1, v2, v3⟩ := nameL_V hs
    have hdr : (36 :: t).drop n = (skip t).drop (nameL (skip t)) := by
      rw [← h3, show 1 + (t.length - (skip t).length) + nameL (skip t) = ((t.length - (skip t).length) + nameL (skip t)) + 1 by omega, List.drop_succ_cons, ← List.drop_drop]
      congr 1
      rw [show t.length - (skip t).length = (t.takeWhile blank).length by omega, ← skip_drop]
    have hk : skip (skip t) = skip t := skip_skip t
    have hl : tx.length = nameL (skip t) := by rw [← h2, List.length_take]; omega
    have hr : rend kd tx = 36 :: tx := by unfold rend; rw [← h1, if_pos rfl]
    cases hst : skip t with
    | nil => exact absurd (by rw [hst]; exact nameF_nil _ _) h0
    | cons c u =>
      have hb := skip_head hst
      rw [h2] at v1 v3
      have htx : ∃ u', tx = c :: u' := by
        rw [← h2, hst]
        rw [hst] at h0
        cases hn : nameL (c :: u) with
        | zero => exact absurd hn h0
        | succ m => exact ⟨u.take m, by rw [List.take_succ_cons]⟩
      obtain ⟨u', hu'⟩ := htx
      refine ⟨by rw [hr]; exact V.append (V.one (c := 36) (by decide) (by decide)) v1, by rw [hdr]; exact v2, by rw [hr, List.length_cons]; omega, ⟨36, tx, hr, by decide⟩, fun x => ?_, fun x _ => ?_⟩
      · rw [hr, fol_other (by decide) (by decide)]
        exact fol_other (by decide) (by decide) _
      · rw [hr, List.cons_append, token_cons]
        unfold tokenC
        rw [if_neg (by decide), if_pos rfl]
        have e1 : skip (tx ++ 32 :: x) = tx ++ 32 :: x := by rw [hu', List.cons_append]; exact skip_of hb _
        have e2 := v3 x
        unfold variable_
        rw [e1, e2, if_neg h0, ← hl, List.take_append_of_le_length (Nat.le_refl _), List.take_length, ← h1]
        congr 1
        simp
        omega

theorem like_rest {op : Bool} {c : UInt8} {t tx : List UInt8} {kd : Int} {n : Nat} (hV : V (c :: t)) (hno : ¬ (c = 34 ∨ c = 39)) (h36 : c ≠ 36) (h42 : c ≠ 42) (hbl : blank c = false) (h : rest_ op (c :: t) = .tok kd tx n) : Like op (c :: t) kd tx n := by
  unfold rest_ at h
  obtain ⟨v1, v2, v3⟩ := nameL_V hV
  split at h
  · rename_i hpos
    have hle := nameF_le ((c :: t).length + 1) true (c :: t)
    change nameL (c :: t) ≤ _ at hle
    have hn := word_len h
    have hz : c.toNat < 128 → Utf.Char (c.toNat : Nat) = true → Begins (c.toNat : Nat) = true := fun h1 h2 => by
      cases hb : Begins (c.toNat : Nat)
      · have := nameL_zero t h1 h2 hb
        omega
      · rfl
    have c58 : c ≠ 58 := by rintro rfl; exact absurd (hz (by decide) (by decide)) (by decide)
    have c40 : c ≠ 40 := by rintro rfl; exact absurd (hz (by decide) (by decide)) (by decide)
    have c46 : ¬ (c = 46 ∨ dig c = true) := by
      intro hc
      have h1 := char_dig hc
      have h2 := hz h1.1 h1.2
      rcases hc with rfl | hc
      · exact absurd h2 (by decide)
      · have := dig_range hc
        unfold Begins inb at h2
        simp at h2
        omega
    have ht : tx = (c :: t).take n ∧ kd ≠ 9 ∧ kd ≠ 7 := by
      unfold word at h
      split at h
      · split at h
        · injection h with h1 h2 h3
          exact ⟨by rw [← h2, hn], by omega, by omega⟩
        · cases h
      · injection h with h1 h2 h3
        refine ⟨by rw [← h2, hn], ?_⟩
        rw [← h1]
        unfold wkind
        split
        · decide
        · split
          · split <;> decide
          · decide
    obtain ⟨htx, k9, k7⟩ := ht
    have hr := rend_other k9 k7 tx
    have hl : tx.length = n := by rw [htx, List.length_take, hn]; omega
    rw [← hn] at v1 v2 v3
    have hcons : ∃ u, tx = c :: u := by
      rw [htx]
      cases n with
      | zero => omega
      | succ m => exact ⟨t.take m, by rw [List.take_succ_cons]⟩
    obtain ⟨u, hu⟩ := hcons
    refine ⟨by rw [hr, htx]; exact v1, v2, by rw [hr]; omega, ⟨c, u, by rw [hr, hu], hbl⟩, fun x => ?_, fun x hx => ?_⟩
    · rw [hr, hu, List.cons_append, fol_other c58 c40, fol_other c58 c40]
    · have hnx := v3 x
      rw [← htx] at hnx
      rw [hr, hl]
      have e0 : token op (tx ++ 32 :: x) = rest_ op (tx ++ 32 :: x) := by
        rw [hu, List.cons_append, token_cons]
        unfold tokenC
        rw [if_neg hno, if_neg h36, if_neg h42, if_neg c46]
      rw [e0]
      unfold rest_
      rw [hnx, if_pos (by omega)]
      have e1 : (tx ++ 32 :: x).take n = tx := by rw [← hl, List.take_append_of_le_length (Nat.le_refl _), List.take_length]
      have e2 : (tx ++ 32 :: x).drop n = 32 :: x := by rw [← hl, List.drop_append_of_le_length (Nat.le_refl _), List.drop_length]; rfl
      rw [← hn] at h
      unfold word at h ⊢
      rw [e1, e2, skip_blank, hx]
      rw [← htx] at h
      exact h
  · obtain ⟨hk, m, hn, ⟨b, hb⟩, hs⟩ := sign_inv h
    have hr := rend_other (kd := kd) (by omega) (by omega) tx
    have hasc : ∀ p ∈ signs1 ++ signs2, (∀ c ∈ p, c.toNat < 128 ∧ Utf.Char (c.toNat : Nat) = true) := by decide
    have ha := hasc tx m
    have hf : ∀ p ∈ signs1 ++ signs2, ∀ x y, fol (p ++ x) = fol (p ++ y) := by
      intro p hp x y
      simp only [signs1, signs2, List.cons_append, List.nil_append, List.mem_cons, List.not_mem_nil, or_false] at hp
      rcases hp with rfl | rfl | rfl | rfl | rfl | rfl | rfl | rfl | rfl | rfl | rfl | rfl | rfl | rfl | rfl | rfl | rfl | rfl | rfl | rfl <;> rfl
    have htk : (c :: t).take n = tx := by rw [hb, hn, List.take_append_of_le_length (Nat.le_refl _), List.take_length]
    refine ⟨by rw [hr]; exact V.all ha, ?_, by rw [hr, hn]; omega, ?_, fun x => ?_, fun x hx => ?_⟩
    · exact hV.drop_ascii n (by rw [htk]; exact fun c hc => (ha c hc).1)
    · cases tx with
      | nil => exact absurd m (by decide)
      | cons d u =>
        injection hb with hb _
        exact ⟨d, u, hr, by rw [← hb]; exact hbl⟩
    · rw [hr, hb]
      exact hf tx m _ _
    · rw [hr, token_sign m, hs x, hn]

theorem like_of {op : Bool} {r tx : List UInt8} {kd : Int} {n : Nat} (hV : V r) (hs : skip r = r) (h : token op r = .tok kd tx n) : Like op r kd tx n := by
  cases r with
  | nil => cases h
  | cons c t =>
    have hbl := skip_head hs
    rw [token_cons] at h
    unfold tokenC at h
    split at h
    · rename_i hq
      exact like_quote hq hV h
    · rename_i hno
      split at h
      · rename_i h36
        subst h36
        exact like_var hV h
      · rename_i h36
        split at h
        · rename_i h42
          subst h42
          injection h with h1 h2 h3
          have hr : rend kd tx = [42] := by
            rw [rend_other (by rw [← h1]; split <;> decide) (by rw [← h1]; split <;> decide), ← h2]
          refine ⟨by rw [hr]; exact V.one (by decide) (by decide), by rw [← h3]; exact hV.tail (by decide), by rw [hr, ← h3]; exact Nat.le_refl _, ⟨42, [], hr, by decide⟩, fun x => ?_, fun x hx => ?_⟩
          · rw [hr, fol_other (by decide) (by decide)]
            exact fol_other (by decide) (by decide) _
          · rw [hr, ← h1, ← h2]
            rfl
        · rename_i h42
          split at h
          · rename_i hd
            split at h
            · rename_i m hm
              injection h with h1 h2 h3
              obtain ⟨a1, a2⟩ := number_again hm []
              have hml := number_le hm
              have hr : rend kd tx = (c :: t).take n := by rw [rend_other (by omega) (by omega), ← h2, h3]
              rw [h3] at a2 hml
              have hcons : ∃ u, (c :: t).take n = c :: u := by
                cases n with
                | zero => omega
                | succ m => exact ⟨t.take m, by rw [List.take_succ_cons]⟩
              obtain ⟨u, hu⟩ := hcons
              have c58 : c ≠ 58 := by rintro rfl; exact absurd hd (by decide)
              have c40 : c ≠ 40 := by rintro rfl; exact absurd hd (by decide)
              refine ⟨by rw [hr]; exact V.all fun c hc => char_dig (a2 c hc), hV.drop_ascii n fun c hc => (char_dig (a2 c hc)).1, by rw [hr, List.length_take]; omega, ⟨c, u, by rw [hr, hu], hbl⟩, fun x => ?_, fun x hx => ?_⟩
              · rw [hr, hu, List.cons_append, fol_other c58 c40, fol_other c58 c40]
              · obtain ⟨b1, _⟩ := number_again hm x
                rw [h3] at b1
                have hlen : ((c :: t).take n).length = n := by rw [List.length_take]; omega
                have e1 : ((c :: t).take n ++ 32 :: x).take n = (c :: t).take n := by
                  rw [List.take_append_of_le_length (by omega), List.take_take, Nat.min_self]
                rw [hr, hlen]
                rw [hu] at b1 e1 ⊢
                rw [List.cons_append] at b1 e1 ⊢
                rw [token_cons]
                unfold tokenC
                rw [if_neg hno, if_neg h36, if_neg h42, if_pos hd, b1]
                simp only
                rw [e1, ← hu, ← h1, ← h2, h3]
            · exact like_rest hV hno h36 h42 hbl h
          · exact like_rest hV hno h36 h42 hbl h
end Go.Proofs.YthiikldjngamaaaDoor.Qx
