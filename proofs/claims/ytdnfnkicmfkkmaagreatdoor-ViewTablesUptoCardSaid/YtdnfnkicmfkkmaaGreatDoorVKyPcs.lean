/- The pieces that strings.Lines tells of a text, read as rules one by one. No program stands here. -/
import Derived.Test.YtdnfnkicmfkkmaaGreatDoorVKyLaw
import Derived.Lib.SplitLaws
import Derived.Lib.IndexMore
import Derived.Lib.SlTrimSet
import Derived.Lib.Join
set_option linter.unusedVariables false
set_option linter.unusedSimpArgs false
section

end

section
namespace Go.Proofs.YtdnfnkicmfkkmaaGreatDoor.Ky
theorem idx_none {c : UInt8} {s : Tx} (h : c ∉ s) : Lib.index s [c] = -1 := by
 induction s with
 | nil => rfl
 | cons b s ih =>
  rw [List.mem_cons, not_or] at h;unfold Lib.index;rw [if_neg (by simp [List.isPrefixOf, h.1]), ih h.2];rfl
theorem idx_some {c : UInt8} {x : Tx} (h : c ∉ x) (r : Tx) : Lib.index (x ++ c :: r) [c] = (x.length : Nat) := by
 induction x with
 | nil =>
  show Lib.index (c :: r) [c] = 0
  unfold Lib.index;rw [if_pos (by simp [List.isPrefixOf])]
 | cons b x ih =>
  rw [List.mem_cons, not_or] at h;rw [List.cons_append];unfold Lib.index;rw [if_neg (by simp [List.isPrefixOf, h.1]), ih h.2, if_neg (by rw [beq_iff_eq]; omega)];simp
theorem byte_ways (c : UInt8) (s : Tx) : c ∉ s \/ ∃ x r, s = x ++ c :: r /\ c ∉ x := by
 induction s with
 | nil => exact .inl (by simp)
 | cons b s ih =>
  by_cases hb : b = c
  ·exact .inr ⟨[], s, by rw [hb]; rfl, by simp⟩
  ·rcases ih with h | ⟨x, r, rfl, h⟩
   ·exact .inl (by rw [List.mem_cons, not_or]; exact ⟨fun e => hb e.symm, h⟩)
   ·exact .inr ⟨b :: x, r, rfl, by rw [List.mem_cons, not_or]; exact ⟨fun e => hb e.symm, h⟩⟩
theorem split_eq (c : UInt8) : ∀ (n : Nat) (s : Tx), s.length <= n -> Lib.split s [c] = split c s
 | 0, s, h => by
  obtain rfl : s = [] := List.eq_nil_of_length_eq_zero (by omega);rfl
 | n + 1, s, h => by
  unfold Lib.split;rcases byte_ways c s with h1 | ⟨x, r, rfl, h1⟩
  ·rw [Lib.count_miss (idx_none h1), split_none h1];rfl
  ·have hi := idx_some h1 r;have hd : (x ++ c :: r).drop (x.length + 1) = r := by simp
   rw [Lib.count_hit (by simp) hi, split_cut h1, show ([c] : Tx).length = 1 from rfl, hd, Nat.add_comm 1];unfold Lib.splitK;rw [if_neg (by rw [hi, beq_iff_eq]; omega), hi, show ([c] : Tx).length = 1 from rfl, Int.toNat_natCast, hd];have ih := split_eq c n r (by simp at h; omega);unfold Lib.split at ih;rw [ih, Nat.add_zero, List.take_left]
theorem split_len (c : UInt8) (s : Tx) : (split c s).length <= s.length + 1 := by
 induction s with
 | nil => simp [split]
 | cons b s ih =>
  unfold split
  split
  ·simp; omega
  ·split
   ·simp
   ·rename_i h
    rw [h] at ih;simp at ih ⊢;omega
theorem split_small (c : UInt8) (s : Tx) : ∀ x ∈ split c s, x.length <= s.length := by
 induction s with
 | nil => simp [split]
 | cons b s ih =>
  intro x hx;rw [split_cons] at hx
  split at hx
  ·rcases List.mem_cons.1 hx with rfl | hx
   ·simp
   ·have := ih x hx;simp;omega
  ·cases hs : split c s with
   | nil => exact absurd hs (split_ne c s)
   | cons y r =>
    rw [hs] at hx ih;simp only at hx;rcases List.mem_cons.1 hx with rfl | hx
    ·have := ih y (List.mem_cons_self ..);simp;omega
    ·have := ih x (List.mem_cons_of_mem _ hx);simp;omega
theorem cs_blank (b : UInt8) : ([9, 10, 13, 32] : Tx).contains b = blank b := by
 unfold blank;rw [Bool.eq_iff_iff];simp;rw [or_assoc, or_assoc]
section
variable (p : UInt8 -> Bool)
theorem dw_all : ∀ {l : Tx}, (∀ b ∈ l, p b = true) -> l.dropWhile p = []
 | [], _ => rfl
 | b :: l, h => by
  rw [List.dropWhile_cons_of_pos (h b (List.mem_cons_self ..))];exact dw_all fun c hc => h c (List.mem_cons_of_mem _ hc)
theorem dw_first : ∀ {l : Tx}, (¬ ∀ b ∈ l, p b = true) -> ∃ a x m, l = a ++ x :: m /\ (∀ b ∈ a, p b = true) /\ p x = false
 | [], h => absurd (fun b hb => by cases hb) h
 | b :: l, h => by
  cases hb : p b with
  | false => exact ⟨[], b, l, rfl, fun x hx => (by cases hx), hb⟩
  | true =>
   obtain ⟨a, x, m, rfl, h1, h2⟩ := dw_first (l := l) fun hl => h fun c hc => by
    rcases List.mem_cons.1 hc with rfl | hc
    ·exact hb
    ·exact hl c hc
   exact ⟨b :: a, x, m, rfl, fun c hc => by
    rcases List.mem_cons.1 hc with rfl | hc
    ·exact hb
    ·exact h1 c hc, h2⟩
theorem dw_cut {a : Tx} (ha : ∀ b ∈ a, p b = true) (z : Tx) : (a ++ z).dropWhile p = z.dropWhile p := by
 induction a with
 | nil => rfl
 | cons b a ih =>
  rw [List.cons_append, List.dropWhile_cons_of_pos (ha b (List.mem_cons_self ..))];exact ih fun c hc => ha c (List.mem_cons_of_mem _ hc)
theorem dw_stop {x : UInt8} (hx : p x = false) (t : Tx) : (x :: t).dropWhile p = x :: t := List.dropWhile_cons_of_neg (by rw [hx]; decide)
theorem dw_mid {x : UInt8} (hx : p x = false) (t : Tx) : ∀ y : Tx, ∃ y', (y ++ x :: t).dropWhile p = y' ++ x :: t
 | [] => ⟨[], dw_stop p hx t⟩
 | b :: y => by
  cases hb : p b with
  | true =>
   rw [List.cons_append, List.dropWhile_cons_of_pos hb];exact dw_mid hx t y
  | false => exact ⟨b :: y, by rw [List.cons_append, dw_stop p hb]⟩
theorem dw_keep {x : UInt8} (hx : p x = false) (t : Tx) : ∀ y : Tx, (y ++ x :: t).dropWhile p = (y ++ [x]).dropWhile p ++ t
 | [] => by rw [List.nil_append, List.nil_append, dw_stop p hx, dw_stop p hx]; rfl
 | b :: y => by
  cases hb : p b with
  | true =>
   rw [List.cons_append, List.dropWhile_cons_of_pos hb, List.cons_append, List.dropWhile_cons_of_pos hb];exact dw_keep hx t y
  | false => rw [List.cons_append, dw_stop p hb, List.cons_append, dw_stop p hb]; simp
theorem ends_swap (l : Tx) : (l.reverse.dropWhile p).reverse.dropWhile p = ((l.dropWhile p).reverse.dropWhile p).reverse := by
 by_cases h : ∀ b ∈ l, p b = true
 ·rw [dw_all p h, dw_all p (l := l.reverse) fun b hb => h b (List.mem_reverse.1 hb)];rfl
 ·obtain ⟨a, x, m, rfl, ha, hx⟩ := dw_first p h;have e1 : (a ++ x :: m).reverse = m.reverse ++ x :: a.reverse := by simp
  rw [e1, dw_keep p hx, dw_cut p ha, dw_stop p hx, List.reverse_append, List.reverse_reverse, dw_cut p ha, List.reverse_cons];obtain ⟨y', hy⟩ := dw_mid p hx [] m.reverse;rw [hy];have e2 : (y' ++ [x]).reverse = x :: y'.reverse := by simp
  rw [e2, dw_stop p hx]
end
theorem trim_eq (s : Tx) : Lib.trimS s [9, 10, 13, 32] = trim s := by
 unfold Lib.trimS Lib.trimLeftS Lib.trimRightS trim trimL;have e : (([9, 10, 13, 32] : Tx).contains ·) = blank := funext cs_blank;rw [e];exact ends_swap blank s
theorem join_eq (sep : Tx) : ∀ l : List Tx, Lib.join l sep = join sep l
 | [] => rfl
 | [x] => Lib.join_one x sep
 | x :: y :: r => by
  rw [Lib.join_cons]
  show _ = x ++ sep ++ join sep (y :: r)
  rw [<- join_eq sep (y :: r), Lib.join_cons];simp [Lib.joinTail]
/-! ### Small laws for the walks -/
theorem once_snoc (a : List Tx) (x : Tx) : onceB (a ++ [x]) = (onceB a && !(a.contains x)) := by
 induction a with
 | nil => simp [onceB]
 | cons y a ih =>
  rw [List.cons_append, onceB, onceB, ih]
  have hc : (a ++ [x]).contains y = (a.contains y || x == y) := by
   rw [Bool.eq_iff_iff];simp only [List.contains_iff_mem, List.mem_append, List.mem_singleton, Bool.or_eq_true, beq_iff_eq];exact or_congr Iff.rfl ⟨fun h => h.symm, fun h => h.symm⟩
  rw [hc, List.contains_cons]
  by_cases hxy : x = y
  ·subst hxy;simp
  ·have h1 : (x == y) = false := beq_eq_false_iff_ne.2 hxy;rw [h1];simp [Bool.and_assoc]
theorem strip_set (p : Tx -> Bool) {l : List Tx} (hl : l ≠ []) : (l.set (l.length - 1) (strip (l.getLast?.getD []))).all p = (l.dropLast.all p && p (strip (l.getLast?.getD []))) := by
 obtain ⟨a, x, rfl⟩ : ∃ a x, l = a ++ [x] := ⟨l.dropLast, l.getLast hl, (List.dropLast_concat_getLast hl).symm⟩;rw [List.getLast?_concat, List.dropLast_concat, Option.getD_some];have : (a ++ [x]).length - 1 = a.length := by simp
 rw [this, List.set_append_right _ _ (Nat.le_refl _), Nat.sub_self];simp
theorem key_dot {nm : Tx -> Bool} : keyB nm [46] = true := by
 unfold keyB;simp
theorem key_not {nm : Tx -> Bool} {s : Tx} (h : s ≠ [46]) : keyB nm s = ((split 47 s).set ((split 47 s).length - 1) (strip ((split 47 s).getLast?.getD []))).all nm := by
 unfold keyB;rw [decide_eq_false h, Bool.false_or, strip_set nm (split_ne 47 s)]
end Go.Proofs.YtdnfnkicmfkkmaaGreatDoor.Ky
end

section
namespace Go.Proofs.YtdnfnkicmfkkmaaGreatDoor.Ky
section
variable (nm : Tx -> Bool)
/-! ### How long what is read is -/
def Smr (M : Nat) (r : Rl) : Prop := r.1.length <= M + 1 /\ r.2.length <= M + 1 /\ (∀ t ∈ r.1, t.length <= M) /\ ∀ t ∈ r.2, t.length <= M
end
/-! ### What rules weigh -/
def lens (l : List Tx) : Nat := (l.map List.length).sum
def wt (r : Rl) : Nat := 1 + r.1.length + r.2.length + lens r.1 + lens r.2
def wts (l : List Rl) : Nat := (l.map wt).sum
theorem lens_le {l : List Tx} {t : Tx} (h : t ∈ l) : t.length <= lens l := by
 induction l with
 | nil => cases h
 | cons x l ih =>
  unfold lens at *;rw [List.map_cons, List.sum_cons];rcases List.mem_cons.1 h with rfl | h
  ·omega
  ·have := ih h;omega
theorem wts_le {l : List Rl} {r : Rl} (h : r ∈ l) : wt r <= wts l := by
 induction l with
 | nil => cases h
 | cons x l ih =>
  unfold wts at *;rw [List.map_cons, List.sum_cons];rcases List.mem_cons.1 h with rfl | h
  ·omega
  ·have := ih h;omega
theorem wts_len (l : List Rl) : l.length <= wts l := by
 induction l with
 | nil => simp
 | cons x l ih =>
  unfold wts at *;rw [List.map_cons, List.sum_cons, List.length_cons];have : 1 <= wt x := by unfold wt; omega
  omega
theorem lens_append (a b : List Tx) : lens (a ++ b) = lens a + lens b := by simp [lens]
theorem wts_append (a b : List Rl) : wts (a ++ b) = wts a + wts b := by simp [wts]
theorem small_of {l : List Rl} {M : Nat} (h : wts l <= M) : ∀ r ∈ l, Smr M r := fun r hr => by
 have h1 := wts_le hr;unfold wt at h1;exact ⟨by omega, by omega, fun t ht => by have := lens_le ht; omega, fun t ht => by have := lens_le ht; omega⟩
theorem join_len (sep : Tx) : ∀ l : List Tx, (join sep l).length <= lens l + l.length * sep.length
 | [] => by simp [join]
 | [x] => by simp [join, lens]
 | x :: y :: r => by
  have h := join_len sep (y :: r)
  show (x ++ sep ++ join sep (y :: r)).length <= _
  unfold lens at *;rw [List.length_append, List.length_append, List.map_cons, List.sum_cons, List.length_cons, Nat.succ_mul];omega
end Go.Proofs.YtdnfnkicmfkkmaaGreatDoor.Ky
end
