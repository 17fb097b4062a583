/- The tokens of an expression, plainly: what qlex computes. -/
import Derived.Test.YthiikldjngamaaaDoorUtfE
import Derived.Lib.Bytealg
import Derived.Lib.SlTrimSet
namespace Go.Proofs.YthiikldjngamaaaDoor.Qx
open Go.RowKit UtfW

theorem bt_drop0 (l : List UInt8) (k i : Nat) : bt l (k + i) = bt (l.drop k) i := by
  unfold bt
  rw [List.getElem?_drop]

theorem nx_drop (l : List UInt8) (k : Nat) : nx l k = nx (l.drop k) 0 := by
  unfold nx
  by_cases h : k < l.length
  · rw [if_pos h, if_pos (by rw [List.length_drop]; omega)]
    have h0 := bt_drop0 l k 0
    rw [List.length_drop, Nat.sub_zero, bt_drop0 l k 1, bt_drop0 l k 2, bt_drop0 l k 3, ← bt_drop0 l k 0]
    rfl
  · rw [if_neg h, if_neg (by rw [List.length_drop]; omega)]

def blank (b : UInt8) : Bool := Blank (b.toNat : Int)
def skip (r : List UInt8) : List UInt8 := r.dropWhile blank
def dig (b : UInt8) : Bool := decide (48 ≤ (b.toNat : Int)) && decide ((b.toNat : Int) ≤ 57)
def digits (r : List UInt8) : Nat := (r.takeWhile dig).length
/-- How many bytes of a name stand here. -/
def nameF : Nat → Bool → List UInt8 → Nat
  | 0, _, _ => 0
  | f + 1, first, r => if (first && !Begins (nx r 0).1) || !GoesOn (nx r 0).1 then 0 else (nx r 0).2 + nameF f false (r.drop (nx r 0).2)
def nameL (r : List UInt8) : Nat := nameF (r.length + 1) true r
/-- How many bytes of a number stand here. -/
def number (r : List UInt8) : Option Nat :=
  if r[digits r]? = some 46 then
    (if digits r + digits (r.drop (digits r + 1)) = 0 then none else some (digits r + (1 + digits (r.drop (digits r + 1)))))
  else if digits r = 0 then none else some (digits r)

def ops : List (List UInt8) := [[97, 110, 100], [111, 114], [100, 105, 118], [109, 111, 100]]
def types : List (List UInt8) := [[99, 111, 109, 109, 101, 110, 116], [116, 101, 120, 116], [112, 114, 111, 99, 101, 115, 115, 105, 110, 103, 45, 105, 110, 115, 116, 114, 117, 99, 116, 105, 111, 110], [110, 111, 100, 101]]
def opens : List (List UInt8) := [[64], [58, 58], [40], [91], [44]]
def signs1 : List (List UInt8) := [[47, 47], [33, 61], [60, 61], [62, 61], [47], [124], [43], [45], [61], [60], [62]]
def signs2 : List (List UInt8) := [[58, 58], [46, 46], [40], [41], [91], [93], [64], [44], [46]]

/-- What a place gives: what is wrong, or a token and how many bytes it has. -/
inductive Res where
  | bad (code : Int)
  | tok (kd : Int) (tx : List UInt8) (n : Nat)

/-- Whether a token ends an operand. -/
def opdT (kd : Int) (tx : List UInt8) : Bool := if kd = 5 then false else if kd = 6 then !decide (tx ∈ opens) else true

/-- What follows a word: an axis's mark, a parenthesis, or neither. -/
def fol (r : List UInt8) : Nat := if Lib.hasPrefix r [58, 58] then 1 else if Lib.hasPrefix r [40] then 2 else 0
def wkind (tx : List UInt8) (f : Nat) : Int := if f = 1 then 4 else if f = 2 then (if tx ∈ types then 3 else 2) else 1

def word (op : Bool) (r : List UInt8) (n : Nat) : Res :=
  if op then (if r.take n ∈ ops then .tok 5 (r.take n) n else .bad 61) else .tok (wkind (r.take n) (fol (skip (r.drop n)))) (r.take n) n

def sign (r : List UInt8) : Res :=
  match signs1.find? fun p => Lib.hasPrefix r p with
  | some p => .tok 5 p p.length
  | none => match signs2.find? fun p => Lib.hasPrefix r p with
    | some p => .tok 6 p p.length
    | none => .bad 60

def quoted (c : UInt8) (t : List UInt8) : Res :=
  if Lib.indexByte t c < 0 then .bad 60 else .tok 7 (t.take (Lib.indexByte t c).toNat) ((Lib.indexByte t c).toNat + 2)

def variable_ (t : List UInt8) : Res :=
  if nameL (skip t) = 0 then .bad 60 else .tok 9 ((skip t).take (nameL (skip t))) (1 + (t.length - (skip t).length) + nameL (skip t))

def rest_ (op : Bool) (r : List UInt8) : Res := if 0 < nameL r then word op r (nameL r) else sign r

def tokenC (op : Bool) (c : UInt8) (t : List UInt8) : Res :=
  if c = 34 ∨ c = 39 then quoted c t
  else if c = 36 then variable_ t
  else if c = 42 then .tok (if op then 5 else 1) [42] 1
  else if c = 46 ∨ dig c = true then
    match number (c :: t) with
    | some n => .tok 8 ((c :: t).take n) n
    | none => rest_ op (c :: t)
  else rest_ op (c :: t)
def token (op : Bool) : List UInt8 → Res
  | [] => .bad 60
  | c :: t => tokenC op c t
theorem token_cons (op : Bool) (c : UInt8) (t : List UInt8) : token op (c :: t) = tokenC op c t := rfl

abbrev Tok := Int × Int × List UInt8
def opd (ts : List Tok) : Bool := match ts.getLast? with | none => false | some t => opdT t.1 t.2.2

/-- Behind the blanks. -/
def sk (S : List UInt8) (k : Nat) : Nat := k + ((S.drop k).takeWhile blank).length

/-- All tokens from a place on, at which there is no blank; or what is wrong, and where. -/
def runF : Nat → List UInt8 → Nat → List Tok → Int × Int × List Tok
  | 0, _, _, ts => (0, 0, ts)
  | f + 1, S, k, ts => if S.length ≤ k then (0, 0, ts) else
    match token (opd ts) (S.drop k) with
    | .bad c => (c, (k : Int), ts)
    | .tok kd tx n => runF f S (sk S (k + n)) (ts ++ [(kd, (k : Int), tx)])

def allF (S : List UInt8) : Int × Int × List Tok :=
  if 1000 < S.length then (8, 1000, [])
  else if 0 ≤ badW S 0 then (1, badW S 0, [])
  else runF (S.length + 1) S (sk S 0) []

/-! ### First facts -/

theorem skip_drop (l : List UInt8) : skip l = l.drop (l.takeWhile blank).length := by
  unfold skip
  induction l with
  | nil => rfl
  | cons b l ih =>
    rw [List.dropWhile_cons, List.takeWhile_cons]
    cases blank b
    · rfl
    · simpa using ih
theorem takeWhile_le (p : UInt8 → Bool) (l : List UInt8) : (l.takeWhile p).length ≤ l.length := by
  induction l with
  | nil => simp
  | cons b l ih =>
    rw [List.takeWhile_cons]
    cases p b
    · simp
    · simpa using ih
theorem skip_len (l : List UInt8) : (l.takeWhile blank).length + (skip l).length = l.length := by
  have := takeWhile_le blank l
  rw [skip_drop, List.length_drop]
  omega
theorem skip_skip (l : List UInt8) : skip (skip l) = skip l := by
  unfold skip
  induction l with
  | nil => rfl
  | cons b l ih =>
    rw [List.dropWhile_cons]
    split
    · exact ih
    · rename_i h
      rw [List.dropWhile_cons, if_neg h]
theorem sk_drop (S : List UInt8) (k : Nat) : S.drop (sk S k) = skip (S.drop k) := by
  unfold sk
  rw [← List.drop_drop, skip_drop]
theorem sk_ge (S : List UInt8) (k : Nat) : k ≤ sk S k := by unfold sk; omega
theorem sk_le (S : List UInt8) (k : Nat) (h : k ≤ S.length) : sk S k ≤ S.length := by
  have := takeWhile_le blank (S.drop k)
  rw [List.length_drop] at this
  unfold sk
  omega

theorem nameF_le : ∀ (f : Nat) (first : Bool) (r : List UInt8), nameF f first r ≤ r.length
  | 0, _, _ => by simp [nameF]
  | f + 1, first, r => by
    rw [nameF]
    split
    · omega
    · have h := nameF_le f false (r.drop (nx r 0).2)
      rw [List.length_drop] at h
      by_cases hr : 0 < r.length
      · have := nx_le hr
        omega
      · have : nx r 0 = (0, 0) := by
          unfold nx
          rw [if_neg hr]
        rw [this] at h ⊢
        simp only at h ⊢
        omega

theorem digits_le (r : List UInt8) : digits r ≤ r.length := takeWhile_le dig r

theorem number_le {r : List UInt8} {n : Nat} (h : number r = some n) : 1 ≤ n ∧ n ≤ r.length := by
  have h1 := digits_le r
  have h2 := digits_le (r.drop (digits r + 1))
  rw [List.length_drop] at h2
  unfold number at h
  split at h
  · rename_i hg
    have := (List.getElem?_eq_some_iff.1 hg).1
    split at h
    · cases h
    · injection h with h
      omega
  · split at h
    · cases h
    · injection h with h
      omega

theorem indexByte_lt (l : List UInt8) (c : UInt8) : Lib.indexByte l c < l.length := by
  induction l with
  | nil => show (-1 : Int) < ((0 : Nat) : Int); decide
  | cons b l ih =>
    have := Lib.indexByte_ge l c
    unfold Lib.indexByte
    rw [List.length_cons]
    split
    · omega
    · split
      · omega
      · omega

theorem prefix_len {r p : List UInt8} (h : Lib.hasPrefix r p = true) : p.length ≤ r.length := by
  unfold Lib.hasPrefix at h
  exact (List.isPrefixOf_iff_prefix.1 h).length_le

theorem word_len {op : Bool} {r tx : List UInt8} {kd : Int} {n m : Nat} (h : word op r m = .tok kd tx n) : n = m := by
  unfold word at h
  split at h
  · split at h
    · injection h with _ _ h; exact h.symm
    · cases h
  · injection h with _ _ h; exact h.symm

theorem signs1_pos : ∀ p ∈ signs1, 1 ≤ p.length := by decide
theorem signs2_pos : ∀ p ∈ signs2, 1 ≤ p.length := by decide
theorem sign_len {r tx : List UInt8} {kd : Int} {n : Nat} (h : sign r = .tok kd tx n) : 1 ≤ n ∧ n ≤ r.length := by
  unfold sign at h
  split at h
  · rename_i p hp
    injection h with _ _ h
    have h1 := List.mem_of_find?_eq_some hp
    have h2 := prefix_len (List.find?_some hp)
    subst h
    exact ⟨signs1_pos _ h1, h2⟩
  · split at h
    · rename_i p hp
      injection h with _ _ h
      have h1 := List.mem_of_find?_eq_some hp
      have h2 := prefix_len (List.find?_some hp)
      subst h
      exact ⟨signs2_pos _ h1, h2⟩
    · cases h

theorem rest_len {op : Bool} {r tx : List UInt8} {kd : Int} {n : Nat} (h : rest_ op r = .tok kd tx n) : 1 ≤ n ∧ n ≤ r.length := by
  unfold rest_ at h
  split at h
  · have := word_len h
    have := nameF_le (r.length + 1) true r
    unfold nameL at *
    omega
  · exact sign_len h

theorem token_len {op : Bool} {r tx : List UInt8} {kd : Int} {n : Nat} (h : token op r = .tok kd tx n) : 1 ≤ n ∧ n ≤ r.length := by
  cases r with
  | nil => cases h
  | cons c t =>
    rw [token_cons] at h
    unfold tokenC at h
    split at h
    · unfold quoted at h
      split at h
      · cases h
      · injection h with _ _ h
        have := indexByte_lt t c
        rw [List.length_cons]
        omega
    · split at h
      · unfold variable_ at h
        split at h
        · cases h
        · injection h with _ _ h
          have h1 := skip_len t
          have h2 := nameF_le ((skip t).length + 1) true (skip t)
          unfold nameL at *
          rw [List.length_cons]
          omega
      · split at h
        · injection h with _ _ h
          rw [List.length_cons]
          omega
        · split at h
          · split at h
            · rename_i m hm
              injection h with _ _ h
              subst h
              exact number_le hm
            · exact rest_len h
          · exact rest_len h

theorem sign_bad {r : List UInt8} {c : Int} (h : sign r = .bad c) : c = 60 := by
  unfold sign at h
  split at h
  · cases h
  · split at h
    · cases h
    · injection h with h; exact h.symm
theorem rest_bad {op : Bool} {r : List UInt8} {c : Int} (h : rest_ op r = .bad c) : c = 60 ∨ c = 61 := by
  unfold rest_ at h
  split at h
  · unfold word at h
    split at h
    · split at h
      · cases h
      · injection h with h; exact .inr h.symm
    · cases h
  · exact .inl (sign_bad h)
theorem token_bad {op : Bool} {r : List UInt8} {c : Int} (h : token op r = .bad c) : c = 60 ∨ c = 61 := by
  cases r with
  | nil => injection h with h; exact .inl h.symm
  | cons d t =>
    rw [token_cons] at h
    unfold tokenC at h
    split at h
    · unfold quoted at h
      split at h
      · injection h with h; exact .inl h.symm
      · cases h
    · split at h
      · unfold variable_ at h
        split at h
        · injection h with h; exact .inl h.symm
        · cases h
      · split at h
        · cases h
        · split at h
          · split at h
            · cases h
            · exact rest_bad h
          · exact rest_bad h
end Go.Proofs.YthiikldjngamaaaDoor.Qx
