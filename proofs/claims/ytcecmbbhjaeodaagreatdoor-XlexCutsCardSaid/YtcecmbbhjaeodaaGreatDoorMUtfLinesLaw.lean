/- Ends of lines, and blanks around a text: the plain laws. No program stands here. -/
import Derived.Test.YtcecmbbhjaeodaaGreatDoorMWords
import Derived.Lib.ReplaceLaws
import Derived.Lib.SlTrimSet
namespace Go.Proofs.YtcecmbbhjaeodaaGreatDoor.Utf
open Go.Lib

/-- What replaces each instance of a text, told by its steps. -/
theorem replaceAll_spec (old new : List UInt8) (F : List UInt8 → List UInt8) (hold : old ≠ []) (hne : (old == new) = false) (h0 : F [] = [])
    (h1 : ∀ b t, old.isPrefixOf (b :: t) = true → F (b :: t) = new ++ F ((b :: t).drop old.length))
    (h2 : ∀ b t, old.isPrefixOf (b :: t) = false → F (b :: t) = b :: F t) (l : List UInt8) : replaceAll l old new = F l := by
  have key : ∀ n (l : List UInt8), l.length ≤ n → replaceK old new (count l old) l = F l := by
    intro n
    induction n with
    | zero =>
      intro l hl
      obtain rfl : l = [] := List.eq_nil_of_length_eq_zero (by omega)
      have hi : index [] old = -1 := by
        unfold index
        cases old with
        | nil => exact absurd rfl hold
        | cons a r => rfl
      rw [count_miss hi, h0]
      rfl
    | succ n ih =>
      intro l hl
      cases l with
      | nil =>
        have hi : index [] old = -1 := by
          unfold index
          cases old with
          | nil => exact absurd rfl hold
          | cons a r => rfl
        rw [count_miss hi, h0]
        rfl
      | cons b t =>
        simp only [List.length_cons] at hl
        have hol : 1 ≤ old.length := by
          cases old with
          | nil => exact absurd rfl hold
          | cons a r => simp
        cases hp : old.isPrefixOf (b :: t)
        · rw [h2 b t hp]
          have hi : index (b :: t) old = if index t old == -1 then -1 else index t old + 1 := by
            rw [index, hp]
            rfl
          by_cases hm : index t old = -1
          · have hi' : index (b :: t) old = -1 := by rw [hi, if_pos (beq_iff_eq.2 hm)]
            have h3 := ih t (by omega)
            rw [count_miss hm] at h3
            rw [count_miss hi', ← h3]
            rfl
          · obtain ⟨i, hit⟩ : ∃ i : Nat, index t old = i := ⟨(index t old).toNat, by have := index_ge t old; omega⟩
            have hi' : index (b :: t) old = (i + 1 : Nat) := by
              rw [hi, if_neg (fun e => hm (beq_iff_eq.1 e)), hit]
              rfl
            have h3 := ih t (by omega)
            rw [count_hit hold hit, Nat.add_comm 1, replaceK_hit _ _ _ _ i hit] at h3
            have hd : (b :: t).drop (i + 1 + old.length) = t.drop (i + old.length) := by
              rw [show i + 1 + old.length = (i + old.length) + 1 by omega]
              rfl
            rw [count_hit hold hi', Nat.add_comm 1, replaceK_hit _ _ _ _ (i + 1) hi', hd, ← h3]
            rfl
        · have hi : index (b :: t) old = (0 : Nat) := by
            rw [index, hp]
            rfl
          rw [h1 b t hp, count_hit hold hi, Nat.add_comm 1, replaceK_hit _ _ _ _ 0 hi, ih ((b :: t).drop (0 + old.length)) (by simp only [List.length_drop, List.length_cons]; omega)]
          simp
  have hnum : replaceNum l old (-1) = count l old := by
    unfold replaceNum
    rw [if_pos (Or.inl (by omega))]
  unfold replaceAll replace
  rw [hne, hnum]
  exact key l.length l (Nat.le_refl _)

def rep1 (l : List UInt8) : List UInt8 := l.map fun b => if b = 13 then 10 else b

def rep2 : List UInt8 → List UInt8
  | [] => []
  | [b] => [b]
  | a :: b :: t => if a = 13 ∧ b = 10 then 10 :: rep2 t else a :: rep2 (b :: t)

/-- The document's Lines. -/
def lines : List UInt8 → List UInt8
  | [] => []
  | b :: t => if b = 13 then (if t.head? = some 10 then lines t else 10 :: lines t) else b :: lines t

theorem pre1 (b : UInt8) (t : List UInt8) : ([13] : List UInt8).isPrefixOf (b :: t) = ((13 : UInt8) == b) := by
  simp [List.isPrefixOf]

theorem rep1_eq (l : List UInt8) : replaceAll l [13] [10] = rep1 l := by
  refine replaceAll_spec [13] [10] rep1 (by simp) (by decide) rfl ?_ ?_ l
  · intro b t h
    rw [pre1, beq_iff_eq] at h
    subst h
    rfl
  · intro b t h
    rw [pre1, beq_eq_false_iff_ne] at h
    show (if b = 13 then (10 : UInt8) else b) :: rep1 t = _
    rw [if_neg (Ne.symm h)]

theorem pre2 (a : UInt8) (t : List UInt8) : ([13, 10] : List UInt8).isPrefixOf (a :: t) = ((13 : UInt8) == a && (t.head? == some 10)) := by
  cases t with
  | nil => simp [List.isPrefixOf]
  | cons b r =>
    simp only [List.isPrefixOf, Bool.and_true, List.head?_cons]
    congr 1
    rw [Bool.eq_iff_iff, beq_iff_eq, beq_iff_eq]
    simp [eq_comm]

theorem rep2_eq (l : List UInt8) : replaceAll l [13, 10] [10] = rep2 l := by
  refine replaceAll_spec [13, 10] [10] rep2 (by simp) (by decide) rfl ?_ ?_ l
  · intro a t h
    rw [pre2, Bool.and_eq_true, beq_iff_eq, beq_iff_eq] at h
    cases t with
    | nil => simp at h
    | cons b r =>
      obtain ⟨rfl, h2⟩ := h
      simp at h2
      subst h2
      rw [rep2, if_pos ⟨rfl, rfl⟩]
      rfl
  · intro a t h
    cases t with
    | nil => rfl
    | cons b r =>
      rw [rep2, if_neg]
      rintro ⟨rfl, rfl⟩
      simp [List.isPrefixOf] at h

/-- THE LAW OF Lines. -/
theorem lines_eq : ∀ n (l : List UInt8), l.length ≤ n → rep1 (rep2 l) = lines l := by
  intro n
  induction n with
  | zero =>
    intro l hl
    obtain rfl : l = [] := List.eq_nil_of_length_eq_zero (by omega)
    rfl
  | succ n ih =>
    intro l hl
    match l, hl with
    | [], _ => rfl
    | [b], _ =>
      show (if b = 13 then (10 : UInt8) else b) :: [] = if b = 13 then _ else _
      split
      · rfl
      · rfl
    | a :: b :: t, hl =>
      simp only [List.length_cons] at hl
      rw [rep2, lines]
      by_cases h : a = 13
      · by_cases h2 : b = 10
        · rw [if_pos ⟨h, h2⟩, if_pos h, h2, List.head?_cons, if_pos rfl, lines, if_neg (by decide)]
          show (if (10 : UInt8) = 13 then (10 : UInt8) else 10) :: rep1 (rep2 t) = _
          rw [ih t (by omega)]
          rfl
        · rw [if_neg (fun h3 => h2 h3.2), if_pos h, List.head?_cons, if_neg (by simp [h2])]
          show (if a = 13 then (10 : UInt8) else a) :: rep1 (rep2 (b :: t)) = _
          rw [if_pos h, ih (b :: t) (by simp only [List.length_cons]; omega)]
      · rw [if_neg (fun h3 => h h3.1), if_neg h]
        show (if a = 13 then (10 : UInt8) else a) :: rep1 (rep2 (b :: t)) = _
        rw [if_neg h, ih (b :: t) (by simp only [List.length_cons]; omega)]

theorem lines_no13 (l : List UInt8) : ∀ b ∈ lines l, b ≠ 13 := by
  induction l with
  | nil => intro b hb; cases hb
  | cons a t ih =>
    rw [lines]
    split
    · split
      · exact ih
      · intro b hb
        rcases List.mem_cons.1 hb with rfl | hb
        · decide
        · exact ih b hb
    · intro b hb
      rcases List.mem_cons.1 hb with rfl | hb
      · assumption
      · exact ih b hb

theorem lines_same {l : List UInt8} (h : ∀ b ∈ l, b ≠ 13) : lines l = l := by
  induction l with
  | nil => rfl
  | cons a t ih =>
    rw [lines, if_neg (h a (List.mem_cons_self ..)), ih fun b hb => h b (List.mem_cons_of_mem _ hb)]

/-- A second time nothing changes. -/
theorem lines_again (l : List UInt8) : lines (lines l) = lines l := lines_same (lines_no13 l)

theorem rep2_len (l : List UInt8) : (rep2 l).length ≤ l.length := by
  match l with
  | [] => simp [rep2]
  | [b] => simp [rep2]
  | a :: b :: t =>
    rw [rep2]
    have h1 := rep2_len t
    have h2 := rep2_len (b :: t)
    simp only [List.length_cons] at h2
    split <;> simp only [List.length_cons] <;> omega

theorem lines_len (l : List UInt8) : (lines l).length ≤ l.length := by
  induction l with
  | nil => simp [lines]
  | cons a t ih =>
    rw [lines]
    split
    · split <;> simp only [List.length_cons] <;> omega
    · simp only [List.length_cons]; omega

/-! ### Blanks around a text -/

def cs : List UInt8 := [9, 10, 13, 32]

/-- What lies from a to b is the text without blanks around. -/
theorem trim_cut {l : List UInt8} {a b : Nat} (hab : a ≤ b) (hb : b ≤ l.length) (h1 : ∀ (j : Nat) x, j < a → l[j]? = some x → cs.contains x = true) (h2 : ∀ x, a < b → l[a]? = some x → cs.contains x = false)
    (h3 : ∀ (j : Nat) x, b ≤ j → l[j]? = some x → cs.contains x = true) (h4 : ∀ x, a < b → l[b - 1]? = some x → cs.contains x = false) (h5 : a = b → b = l.length) : trimS l cs = (l.drop a).take (b - a) := by
  unfold trimS
  by_cases e : a = b
  · subst e
    have hl := h5 rfl
    have e1 : trimRightS l cs = l.take 0 := by
      refine trimRightS_take l cs 0 (by omega) (fun j x _ hx => ?_) (fun x h => by omega)
      exact h1 j x (by have := (List.getElem?_eq_some_iff.1 hx).1; omega) hx
    rw [e1]
    simp [trimLeftS]
  · have e1 : trimRightS l cs = l.take b := trimRightS_take l cs b hb h3 fun x _ hx => h4 x (by omega) hx
    rw [e1]
    have e2 := trimLeftS_drop (l.take b) cs a (by rw [List.length_take]; omega) (fun j x hj hx => by
      rw [List.getElem?_take, if_pos (by omega)] at hx
      exact h1 j x hj hx) (fun x hx => by
      rw [List.getElem?_take, if_pos (by omega)] at hx
      exact h2 x (by omega) hx)
    rw [e2, List.drop_take]

theorem trim_len (l : List UInt8) : (trimS l cs).length ≤ l.length := by
  have h1 : ∀ m : List UInt8, (trimLeftS m cs).length ≤ m.length := fun m => by
    unfold trimLeftS
    exact (List.dropWhile_suffix _).length_le
  have h2 : ∀ m : List UInt8, (trimRightS m cs).length ≤ m.length := fun m => by
    unfold trimRightS
    rw [List.length_reverse]
    have := (List.dropWhile_suffix (l := m.reverse) (cs.contains ·)).length_le
    rw [List.length_reverse] at this
    exact this
  exact Nat.le_trans (h1 _) (h2 l)

theorem dropWhile_head {α : Type} (p : α → Bool) (l : List α) : ∀ x, (l.dropWhile p).head? = some x → p x = false := by
  induction l with
  | nil => intro x h; simp at h
  | cons a t ih =>
    intro x h
    rw [List.dropWhile_cons] at h
    split at h
    · exact ih x h
    · rename_i hp
      rw [List.head?_cons, Option.some.injEq] at h
      subst h
      cases hq : p a with
      | false => rfl
      | true => exact absurd hq hp

theorem dropWhile_same {α : Type} (p : α → Bool) (l : List α) (h : ∀ x, l.head? = some x → p x = false) : l.dropWhile p = l := by
  cases l with
  | nil => rfl
  | cons a t =>
    rw [List.dropWhile_cons, h a rfl]
    rfl

/-- Nothing to trim: it stays. -/
theorem trim_same {l : List UInt8} (h1 : ∀ x, l.head? = some x → cs.contains x = false) (h2 : ∀ x, l.getLast? = some x → cs.contains x = false) : trimS l cs = l := by
  unfold trimS
  have e1 : trimRightS l cs = l := by
    unfold trimRightS
    rw [dropWhile_same _ l.reverse (fun x hx => h2 x (by rw [← List.head?_reverse]; exact hx)), List.reverse_reverse]
  rw [e1]
  unfold trimLeftS
  exact dropWhile_same _ l h1

theorem trim_again (l : List UInt8) : trimS (trimS l cs) cs = trimS l cs := by
  refine trim_same ?_ ?_
  · intro x hx
    exact dropWhile_head _ _ x hx
  · intro x hx
    have hsuf : (trimS l cs) <:+ trimRightS l cs := List.dropWhile_suffix _
    have hlast : (trimRightS l cs).getLast? = some x := by
      obtain ⟨pre, hpre⟩ := hsuf
      rw [← hpre, List.getLast?_append, hx]
      rfl
    unfold trimRightS at hlast
    rw [List.getLast?_reverse] at hlast
    exact dropWhile_head _ _ x hlast
end Go.Proofs.YtcecmbbhjaeodaaGreatDoor.Utf
