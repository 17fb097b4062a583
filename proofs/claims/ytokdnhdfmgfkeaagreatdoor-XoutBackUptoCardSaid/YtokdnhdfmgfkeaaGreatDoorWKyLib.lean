/- What the library's functions on texts are, in the words of key specifications. No program stands here. -/
import Derived.Test.YtokdnhdfmgfkeaaGreatDoorWKyLines
import Derived.Lib.SplitLaws
import Derived.Lib.IndexMore
import Derived.Lib.SlTrimSet
import Derived.Lib.Join
set_option linter.unusedVariables false
set_option linter.unusedSimpArgs false
namespace Go.Proofs.YtokdnhdfmgfkeaaGreatDoor.Ky
theorem cs_blank (b : UInt8) : ([9, 10, 13, 32] : Tx).contains b = blank b := by
 unfold blank;rw [Bool.eq_iff_iff];simp;rw [or_assoc, or_assoc]
section
variable (p : UInt8 -> Bool)
theorem dw_all : ∀ {l : Tx}, (∀ b ∈ l, p b = true) -> l.dropWhile p = []
 | [], _ => rfl
 | b :: l, h => by
  rw [List.dropWhile_cons_of_pos (h b (List.mem_cons_self ..))];exact dw_all fun c hc => h c (List.mem_cons_of_mem _ hc)
theorem dw_first : ∀ {l : Tx}, (¬ ∀ b ∈ l, p b = true) -> ∃ a x m, l = a ++ x :: m /\ (∀ b ∈ a, p b = true) /\ p x = false
 | [], h => absurd (fun b hb => by cases hb) h
 | b :: l, h => by
  cases hb : p b with
  | false => exact ⟨[], b, l, rfl, fun x hx => (by cases hx), hb⟩
  | true =>
   obtain ⟨a, x, m, rfl, h1, h2⟩ := dw_first (l := l) fun hl => h fun c hc => by
    rcases List.mem_cons.1 hc with rfl | hc
    ·exact hb
    ·exact hl c hc
   exact ⟨b :: a, x, m, rfl, fun c hc => by
    rcases List.mem_cons.1 hc with rfl | hc
    ·exact hb
    ·exact h1 c hc, h2⟩
theorem dw_cut {a : Tx} (ha : ∀ b ∈ a, p b = true) (z : Tx) : (a ++ z).dropWhile p = z.dropWhile p := by
 induction a with
 | nil => rfl
 | cons b a ih =>
  rw [List.cons_append, List.dropWhile_cons_of_pos (ha b (List.mem_cons_self ..))];exact ih fun c hc => ha c (List.mem_cons_of_mem _ hc)
theorem dw_stop {x : UInt8} (hx : p x = false) (t : Tx) : (x :: t).dropWhile p = x :: t := List.dropWhile_cons_of_neg (by rw [hx]; decide)
theorem dw_mid {x : UInt8} (hx : p x = false) (t : Tx) : ∀ y : Tx, ∃ y', (y ++ x :: t).dropWhile p = y' ++ x :: t
 | [] => ⟨[], dw_stop p hx t⟩
 | b :: y => by
  cases hb : p b with
  | true =>
   rw [List.cons_append, List.dropWhile_cons_of_pos hb];exact dw_mid hx t y
  | false => exact ⟨b :: y, by rw [List.cons_append, dw_stop p hb]⟩
theorem dw_keep {x : UInt8} (hx : p x = false) (t : Tx) : ∀ y : Tx, (y ++ x :: t).dropWhile p = (y ++ [x]).dropWhile p ++ t
 | [] => by rw [List.nil_append, List.nil_append, dw_stop p hx, dw_stop p hx]; rfl
 | b :: y => by
  cases hb : p b with
  | true =>
   rw [List.cons_append, List.dropWhile_cons_of_pos hb, List.cons_append, List.dropWhile_cons_of_pos hb];exact dw_keep hx t y
  | false => rw [List.cons_append, dw_stop p hb, List.cons_append, dw_stop p hb]; simp
theorem ends_swap (l : Tx) : (l.reverse.dropWhile p).reverse.dropWhile p = ((l.dropWhile p).reverse.dropWhile p).reverse := by
 by_cases h : ∀ b ∈ l, p b = true
 ·rw [dw_all p h, dw_all p (l := l.reverse) fun b hb => h b (List.mem_reverse.1 hb)];rfl
 ·obtain ⟨a, x, m, rfl, ha, hx⟩ := dw_first p h;have e1 : (a ++ x :: m).reverse = m.reverse ++ x :: a.reverse := by simp
  rw [e1, dw_keep p hx, dw_cut p ha, dw_stop p hx, List.reverse_append, List.reverse_reverse, dw_cut p ha, List.reverse_cons];obtain ⟨y', hy⟩ := dw_mid p hx [] m.reverse;rw [hy];have e2 : (y' ++ [x]).reverse = x :: y'.reverse := by simp
  rw [e2, dw_stop p hx]
end
theorem trim_eq (s : Tx) : Lib.trimS s [9, 10, 13, 32] = trim s := by
 unfold Lib.trimS Lib.trimLeftS Lib.trimRightS trim trimL;have e : (([9, 10, 13, 32] : Tx).contains ·) = blank := funext cs_blank;rw [e];exact ends_swap blank s
/-! ### Small laws for the walks -/
end Go.Proofs.YtokdnhdfmgfkeaaGreatDoor.Ky
