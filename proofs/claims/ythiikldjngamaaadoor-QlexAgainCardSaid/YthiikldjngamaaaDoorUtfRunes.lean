/- Rows of runes; a text's runes, as the document and the code tell them: the plain law of Name. -/
import Derived.Test.YthiikldjngamaaaDoorUtfBad
import Derived.Lib.ValidAsc
import Derived.Lib.ConvBytes
namespace Go.Proofs.YthiikldjngamaaaDoor.UtfW
open Go.RowKit

/-- The decoder's step at a place. -/
def dec (l : List UInt8) (k : Nat) : Nat × Nat := Lib.decodeN (l.length - k) (bt l k) (bt l (k + 1)) (bt l (k + 2)) (bt l (k + 3))

theorem dec_pos (l : List UInt8) (k : Nat) : 1 ≤ (dec l k).2 := Lib.decodeN_ge1 _ _ _ _ _

theorem str_get (s : ByteArray) (i : Nat) : (s.get! i).toNat = bt s.data.toList i := by
  have h := get_bt s.data.toList 0 i
  rw [List.drop_zero, Nat.zero_add] at h
  rw [← h]
  rfl

theorem decode_str (s : ByteArray) (pos : Nat) : Utf8.decode s pos = dec s.data.toList pos := by
  rw [Lib.decode_at, str_get, str_get, str_get, str_get]
  rfl

theorem nx_dec {l : List UInt8} {k : Nat} (h : k < l.length) : nx l k = if ((dec l k).1 = 65533 ∧ (dec l k).2 < 2) ∨ Utf.Char (dec l k).1 = false then (0, 0) else dec l k := by
  unfold nx
  rw [if_pos h]
  rfl

theorem decodeL_drop {l : List UInt8} {k : Nat} : Lib.decodeL (l.drop k) = dec l k := by
  show Utf8.decode (strOf (l.drop k)) 0 = _
  rw [Lib.decode_at, get_bt, get_bt, get_bt, get_bt, strOf_size, List.length_drop]
  rfl

/-- Whether each step from a place on is valid. -/
def validW (l : List UInt8) (k : Nat) : Bool :=
  if h : k < l.length then (if (dec l k).1 = 65533 ∧ (dec l k).2 = 1 then false else validW l (k + (dec l k).2)) else true
termination_by l.length - k
decreasing_by have := dec_pos l k; omega

theorem validGo_eq (l : List UInt8) : ∀ n k, l.length - k ≤ n → Lib.validGoD n (l.drop k) = validW l k := by
  intro n
  induction n with
  | zero =>
    intro k hk
    rw [validW, dif_neg (by omega)]
    rfl
  | succ n ih =>
    intro k hk
    rw [validW, Lib.validGoD]
    by_cases h : k < l.length
    · have hp := dec_pos l k
      rw [dif_pos h, if_neg (by intro h2; have := congrArg List.length h2; simp at this; omega), decodeL_drop]
      split
      · rfl
      · rw [List.drop_drop]
        exact ih _ (by omega)
    · rw [dif_neg h, if_pos (List.drop_eq_nil_of_le (by omega))]

theorem validD_eq (l : List UInt8) : Lib.validD l = validW l 0 := by
  rw [← validGo_eq l l.length 0 (by omega)]
  rfl

/-- Whether each rune from a place on may be where it is in a name. -/
def nameW (l : List UInt8) (k : Nat) : Bool :=
  if h : k < l.length then (if (k = 0 ∧ Begins (dec l k).1 = false) ∨ GoesOn (dec l k).1 = false then false else nameW l (k + (dec l k).2)) else true
termination_by l.length - k
decreasing_by have := dec_pos l k; omega

/-- The code's Name. -/
def nameC (l : List UInt8) : Bool := validW l 0 && (nameW l 0 && decide (l ≠ []))

/-- A text's runes from a place on, by Next. -/
def runesW (l : List UInt8) (k : Nat) : Option (List Nat) :=
  if h : k < l.length then (if h2 : (nx l k).2 = 0 then none else (runesW l (k + (nx l k).2)).map ((nx l k).1 :: ·)) else some []
termination_by l.length - k

theorem runesW_end {l : List UInt8} {k : Nat} (h : l.length ≤ k) : runesW l k = some [] := by
  rw [runesW, dif_neg (by omega)]
theorem runesW_stop {l : List UInt8} {k : Nat} (h : k < l.length) (h2 : (nx l k).2 = 0) : runesW l k = none := by
  rw [runesW, dif_pos h, dif_pos h2]
theorem runesW_on {l : List UInt8} {k : Nat} (h : k < l.length) (h2 : (nx l k).2 ≠ 0) : runesW l k = (runesW l (k + (nx l k).2)).map ((nx l k).1 :: ·) := by
  rw [runesW, dif_pos h, dif_neg h2]

/-- The document's Name. -/
def nameR (l : List UInt8) : Bool :=
  match runesW l 0 with
  | none => false
  | some [] => false
  | some (r :: rs) => Begins r && (GoesOn r && rs.all fun x => GoesOn x)

theorem char_of_goesOn {r : Int} (h : GoesOn r = true) : Utf.Char r = true := by
  unfold GoesOn Begins at h
  unfold Utf.Char
  rw [decide_eq_true_eq] at *
  simp [inb] at h
  omega

theorem name_step (l : List UInt8) : ∀ n k, 0 < k → l.length - k ≤ n → (validW l k && nameW l k) = match runesW l k with | none => false | some rs => rs.all fun x => GoesOn x := by
  intro n
  induction n with
  | zero =>
    intro k hk hn
    rw [validW, dif_neg (by omega), nameW, dif_neg (by omega), runesW_end (by omega)]
    rfl
  | succ n ih =>
    intro k hk hn
    by_cases h : k < l.length
    · have hnx := nx_dec h
      have hp := dec_pos l k
      rw [validW, dif_pos h, nameW, dif_pos h]
      by_cases h1 : (dec l k).1 = 65533 ∧ (dec l k).2 = 1
      · rw [if_pos h1]
        rw [if_pos (Or.inl ⟨h1.1, by omega⟩)] at hnx
        rw [runesW_stop h (by rw [hnx])]
        rfl
      · rw [if_neg h1]
        have h1' : ¬ ((dec l k).1 = 65533 ∧ (dec l k).2 < 2) := fun h2 => h1 ⟨h2.1, by omega⟩
        cases hg : GoesOn (dec l k).1
        · rw [if_pos (Or.inr rfl), Bool.and_false]
          by_cases h2 : Utf.Char (dec l k).1 = false
          · rw [if_pos (Or.inr h2)] at hnx
            rw [runesW_stop h (by rw [hnx])]
          · rw [if_neg (by rintro (h3 | h3); exact h1' h3; exact h2 h3)] at hnx
            rw [runesW_on h (by rw [hnx]; omega), hnx]
            cases runesW l (k + (dec l k).2) with
            | none => rfl
            | some rs => simp [hg]
        · have hc := char_of_goesOn hg
          rw [if_neg (by rintro (⟨h3, _⟩ | h3); omega; cases h3)]
          rw [if_neg (by rintro (h3 | h3); exact h1' h3; rw [hc] at h3; cases h3)] at hnx
          rw [runesW_on h (by rw [hnx]; omega), hnx, ih _ (by omega) (by omega)]
          cases runesW l (k + (dec l k).2) with
          | none => rfl
          | some rs => simp [hg]
    · rw [validW, dif_neg h, nameW, dif_neg h, runesW_end (by omega)]
      rfl

/-- THE LAW OF Name. -/
theorem name_eq (l : List UInt8) : nameC l = nameR l := by
  unfold nameC nameR
  by_cases h : 0 < l.length
  · have hne : l ≠ [] := by intro h2; rw [h2] at h; simp at h
    rw [show decide (l ≠ []) = true from decide_eq_true hne, Bool.and_true]
    have hnx := nx_dec h
    have hp := dec_pos l 0
    rw [validW, dif_pos h, nameW, dif_pos h]
    by_cases h1 : (dec l 0).1 = 65533 ∧ (dec l 0).2 = 1
    · rw [if_pos h1]
      rw [if_pos (Or.inl ⟨h1.1, by omega⟩)] at hnx
      rw [runesW_stop h (by rw [hnx])]
      rfl
    · rw [if_neg h1]
      have h1' : ¬ ((dec l 0).1 = 65533 ∧ (dec l 0).2 < 2) := fun h2 => h1 ⟨h2.1, by omega⟩
      cases hg : GoesOn (dec l 0).1
      · rw [if_pos (Or.inr rfl), Bool.and_false]
        by_cases h2 : Utf.Char (dec l 0).1 = false
        · rw [if_pos (Or.inr h2)] at hnx
          rw [runesW_stop h (by rw [hnx])]
        · rw [if_neg (by rintro (h3 | h3); exact h1' h3; exact h2 h3)] at hnx
          rw [runesW_on h (by rw [hnx]; omega), hnx]
          cases runesW l (0 + (dec l 0).2) with
          | none => rfl
          | some rs => simp [hg]
      · have hc := char_of_goesOn hg
        rw [if_neg (by rintro (h3 | h3); exact h1' h3; rw [hc] at h3; cases h3)] at hnx
        cases hb : Begins (dec l 0).1
        · rw [if_pos (Or.inl ⟨rfl, rfl⟩), Bool.and_false, runesW_on h (by rw [hnx]; omega), hnx]
          cases runesW l (0 + (dec l 0).2) with
          | none => rfl
          | some rs => simp [hb]
        · rw [if_neg (by rintro (⟨_, h3⟩ | h3) <;> cases h3), runesW_on h (by rw [hnx]; omega), hnx, name_step l _ _ (by omega) (Nat.le_refl _)]
          cases runesW l (0 + (dec l 0).2) with
          | none => rfl
          | some rs => simp [hg, hb]
  · have hne : l = [] := List.eq_nil_of_length_eq_zero (by omega)
    subst hne
    rw [runesW_end (by simp)]
    simp
end Go.Proofs.YthiikldjngamaaaDoor.UtfW
