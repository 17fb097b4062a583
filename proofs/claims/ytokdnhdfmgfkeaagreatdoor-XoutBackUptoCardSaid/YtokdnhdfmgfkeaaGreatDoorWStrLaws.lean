/- Strings as lists of bytes. -/
import Derived.Test.YtokdnhdfmgfkeaaGreatDoorWUtfEnc
import Derived.Lib.ReplaceLaws
import Derived.Lib.SlTrimSet
import Derived.Test.YtokdnhdfmgfkeaaGreatDoorWQxVal
import Derived.Lib.Strings
set_option linter.unusedVariables false
set_option linter.unusedSimpArgs false
section
namespace Go.Proofs.YtokdnhdfmgfkeaaGreatDoor.Utf
open Go.Lib
theorem replaceAll_spec (old new : List UInt8) (F : List UInt8 -> List UInt8) (hold : old ≠ []) (hne : (old == new) = false) (h0 : F [] = [])
  (h1 : ∀ b t, old.isPrefixOf (b :: t) = true -> F (b :: t) = new ++ F ((b :: t).drop old.length))
  (h2 : ∀ b t, old.isPrefixOf (b :: t) = false -> F (b :: t) = b :: F t) (l : List UInt8) : replaceAll l old new = F l := by
 have key : ∀ n (l : List UInt8), l.length <= n -> replaceK old new (count l old) l = F l := by
  intro n
  induction n with
  | zero =>
   intro l hl;obtain rfl : l = [] := List.eq_nil_of_length_eq_zero (by omega)
   have hi : index [] old = -1 := by
    unfold index
    cases old with
    | nil => exact absurd rfl hold
    | cons a r => rfl
   rw [count_miss hi, h0];rfl
  | succ n ih =>
   intro l hl
   cases l with
   | nil =>
    have hi : index [] old = -1 := by
     unfold index
     cases old with
     | nil => exact absurd rfl hold
     | cons a r => rfl
    rw [count_miss hi, h0];rfl
   | cons b t =>
    simp only [List.length_cons] at hl
    have hol : 1 <= old.length := by
     cases old with
     | nil => exact absurd rfl hold
     | cons a r => simp
    cases hp : old.isPrefixOf (b :: t)
    ·rw [h2 b t hp]
     have hi : index (b :: t) old = if index t old == -1 then -1 else index t old + 1 := by
      rw [index, hp];rfl
     by_cases hm : index t old = -1
     ·have hi' : index (b :: t) old = -1 := (by rw [hi, if_pos (beq_iff_eq.2 hm)]);have h3 := ih t (by omega);rw [count_miss hm] at h3;rw [count_miss hi', <- h3];rfl
     ·obtain ⟨i, hit⟩ : ∃ i : Nat, index t old = i := ⟨(index t old).toNat, by have := index_ge t old; omega⟩
      have hi' : index (b :: t) old = (i + 1 : Nat) := by
       rw [hi, if_neg (fun e => hm (beq_iff_eq.1 e)), hit];rfl
      have h3 := ih t (by omega);rw [count_hit hold hit, Nat.add_comm 1, replaceK_hit _ _ _ _ i hit] at h3
      have hd : (b :: t).drop (i + 1 + old.length) = t.drop (i + old.length) := by
       rw [show i + 1 + old.length = (i + old.length) + 1 by omega];rfl
      rw [count_hit hold hi', Nat.add_comm 1, replaceK_hit _ _ _ _ (i + 1) hi', hd, <- h3];rfl
    ·have hi : index (b :: t) old = (0 : Nat) := by
      rw [index, hp];rfl
     rw [h1 b t hp, count_hit hold hi, Nat.add_comm 1, replaceK_hit _ _ _ _ 0 hi, ih ((b :: t).drop (0 + old.length)) (by simp only [List.length_drop, List.length_cons]; omega)];simp
 have hnum : replaceNum l old (-1) = count l old := by
  unfold replaceNum;rw [if_pos (Or.inl (by omega))]
 unfold replaceAll replace;rw [hne, hnum];exact key l.length l (Nat.le_refl _)
def rep1 (l : List UInt8) : List UInt8 := l.map fun b => if b = 13 then 10 else b
def rep2 : List UInt8 -> List UInt8
 | [] => []
 | [b] => [b]
 | a :: b :: t => if a = 13 /\ b = 10 then 10 :: rep2 t else a :: rep2 (b :: t)
def lines : List UInt8 -> List UInt8
 | [] => []
 | b :: t => if b = 13 then (if t.head? = some 10 then lines t else 10 :: lines t) else b :: lines t
theorem pre1 (b : UInt8) (t : List UInt8) : ([13] : List UInt8).isPrefixOf (b :: t) = ((13 : UInt8) == b) := by
 simp [List.isPrefixOf]
theorem rep1_eq (l : List UInt8) : replaceAll l [13] [10] = rep1 l := by
 refine replaceAll_spec [13] [10] rep1 (by simp) (by decide) rfl ?_ ?_ l
 ·intro b t h;rw [pre1, beq_iff_eq] at h;subst h;rfl
 ·intro b t h;rw [pre1, beq_eq_false_iff_ne] at h
  show (if b = 13 then (10 : UInt8) else b) :: rep1 t = _
  rw [if_neg (Ne.symm h)]
theorem pre2 (a : UInt8) (t : List UInt8) : ([13, 10] : List UInt8).isPrefixOf (a :: t) = ((13 : UInt8) == a && (t.head? == some 10)) := by
 cases t with
 | nil => simp [List.isPrefixOf]
 | cons b r =>
  simp only [List.isPrefixOf, Bool.and_true, List.head?_cons]
  congr 1
  rw [Bool.eq_iff_iff, beq_iff_eq, beq_iff_eq];simp [eq_comm]
theorem rep2_eq (l : List UInt8) : replaceAll l [13, 10] [10] = rep2 l := by
 refine replaceAll_spec [13, 10] [10] rep2 (by simp) (by decide) rfl ?_ ?_ l
 ·intro a t h;rw [pre2, Bool.and_eq_true, beq_iff_eq, beq_iff_eq] at h
  cases t with
  | nil => simp at h
  | cons b r =>
   obtain ⟨rfl, h2⟩ := h;simp at h2;subst h2;rw [rep2, if_pos ⟨rfl, rfl⟩];rfl
 ·intro a t h
  cases t with
  | nil => rfl
  | cons b r =>
   rw [rep2, if_neg];rintro ⟨rfl, rfl⟩;simp [List.isPrefixOf] at h
theorem lines_eq : ∀ n (l : List UInt8), l.length <= n -> rep1 (rep2 l) = lines l := by
 intro n
 induction n with
 | zero =>
  intro l hl;obtain rfl : l = [] := List.eq_nil_of_length_eq_zero (by omega);rfl
 | succ n ih =>
  intro l hl
  match l, hl with
  | [], _ => rfl
  | [b], _ =>
   show (if b = 13 then (10 : UInt8) else b) :: [] = if b = 13 then _ else _
   split
   ·rfl
   ·rfl
  | a :: b :: t, hl =>
   simp only [List.length_cons] at hl;rw [rep2, lines]
   by_cases h : a = 13
   ·by_cases h2 : b = 10
    ·rw [if_pos ⟨h, h2⟩, if_pos h, h2, List.head?_cons, if_pos rfl, lines, if_neg (by decide)]
     show (if (10 : UInt8) = 13 then (10 : UInt8) else 10) :: rep1 (rep2 t) = _
     rw [ih t (by omega)];rfl
    ·rw [if_neg (fun h3 => h2 h3.2), if_pos h, List.head?_cons, if_neg (by simp [h2])]
     show (if a = 13 then (10 : UInt8) else a) :: rep1 (rep2 (b :: t)) = _
     rw [if_pos h, ih (b :: t) (by simp only [List.length_cons]; omega)]
   ·rw [if_neg (fun h3 => h h3.1), if_neg h]
    show (if a = 13 then (10 : UInt8) else a) :: rep1 (rep2 (b :: t)) = _
    rw [if_neg h, ih (b :: t) (by simp only [List.length_cons]; omega)]
theorem lines_no13 (l : List UInt8) : ∀ b ∈ lines l, b ≠ 13 := by
 induction l with
 | nil => intro b hb; cases hb
 | cons a t ih =>
  rw [lines]
  split
  ·split
   ·exact ih
   ·intro b hb;rcases List.mem_cons.1 hb with rfl | hb
    ·decide
    ·exact ih b hb
  ·intro b hb;rcases List.mem_cons.1 hb with rfl | hb
   ·assumption
   ·exact ih b hb
theorem rep2_len (l : List UInt8) : (rep2 l).length <= l.length := by
 match l with
 | [] => simp [rep2]
 | [b] => simp [rep2]
 | a :: b :: t =>
  rw [rep2];have h1 := rep2_len t;have h2 := rep2_len (b :: t);simp only [List.length_cons] at h2
  split <;> simp only [List.length_cons] <;> omega
theorem lines_len (l : List UInt8) : (lines l).length <= l.length := by
 induction l with
 | nil => simp [lines]
 | cons a t ih =>
  rw [lines]
  split
  ·split <;> simp only [List.length_cons] <;> omega
  ·simp only [List.length_cons]; omega
/-! ### Blanks around a text -/
def cs : List UInt8 := [9, 10, 13, 32]
end Go.Proofs.YtokdnhdfmgfkeaaGreatDoor.Utf
end

section
namespace Go.Proofs.YtokdnhdfmgfkeaaGreatDoor.Xl
open Go.RowKit UtfW Qx
abbrev Tx := List UInt8
inductive Out (α : Type) where
 | bad (c : Int) (o : Nat)
 | ok (v : α) (n : Nat)
deriving DecidableEq
def Out.shift {α : Type} (k : Nat) : Out α -> Out α
 | .bad c o => .bad c (k + o)
 | .ok v n => .ok v (k + n)
def eat : Tx -> Tx -> Out Unit
 | [], _ => .ok () 0
 | _ :: _, [] => .bad 6 0
 | c :: t, b :: r => if b = c then (eat t r).shift 1 else .bad 2 0
def find (t : Tx) : Tx -> Option Nat
 | [] => if t = [] then some 0 else none
 | b :: r => if t.isPrefixOf (b :: r) then some 0 else (find t r).map (· + 1)
def upto (t r : Tx) : Out Tx := match find t r with
 | none => .bad 6 r.length
 | some n => .ok (r.take n) (n + t.length)
def blanks (r : Tx) : Nat := (r.takeWhile Qx.blank).length
def name (r : Tx) : Out Tx := if r = [] then .bad 6 0 else if nameL r = 0 then .bad 2 0 else .ok (r.take (nameL r)) (nameL r)
/-! ### References -/
def digV (c : UInt8) : Nat := if 48 <= c.toNat /\ c.toNat <= 57 then c.toNat - 48 else if 97 <= c.toNat /\ c.toNat <= 102 then c.toNat - 87 else if 65 <= c.toNat /\ c.toNat <= 70 then c.toNat - 55 else 99
def numF (base : Nat) : Tx -> Nat -> Option Nat
 | [], v => some v
 | c :: t, v => if digV c < base then numF base t (min (v * base + digV c) 1114112) else none
def numR (base : Nat) (t : Tx) : Option Nat := if t = [] then none else match numF base t 0 with
 | some v => if Utf.Char (v : Nat) then some v else none
 | none => none
def named (t : Tx) : Option Nat :=
 if t = [97, 109, 112] then some 38 else if t = [108, 116] then some 60 else if t = [103, 116] then some 62 else if t = [113, 117, 111, 116] then some 34 else if t = [97, 112, 111, 115] then some 39 else none
def refV : Tx -> Option Nat
 | 35 :: 120 :: d => numR 16 d
 | 35 :: d => numR 10 d
 | t => named t
def refR (t : Tx) : Out Tx := match find [59] t with
 | none => .bad 5 0
 | some n => match refV (t.take n) with
  | none => .bad 5 0
  | some v => .ok (encB (v : Nat)) (n + 2)
/-! ### Values and characters -/
def line (r : Tx) : Nat := if Lib.hasPrefix r [13, 10] then 2 else 1
def valF : Nat -> UInt8 -> Tx -> Tx -> Out Tx
 | 0, _, _, _ => .bad 6 0
 | _ + 1, _, [], _ => .bad 6 0
 | f + 1, q, c :: t, out =>
  if c = q then .ok out 1
  else if c = 60 then .bad 2 0
  else if c = 38 then match refR t with
   | .bad e o => .bad e o
   | .ok v n => (valF f q ((c :: t).drop n) (out ++ v)).shift n
  else if c = 9 \/ c = 10 \/ c = 13 then (valF f q ((c :: t).drop (line (c :: t))) (out ++ [32])).shift (line (c :: t))
  else (valF f q t (out ++ [c])).shift 1
def value : Tx -> Out Tx
 | [] => .bad 6 0
 | q :: t => if q = 34 \/ q = 39 then (valF (t.length + 1) q t []).shift 1 else .bad 2 0
def textF : Nat -> Tx -> Tx -> Out Tx
 | 0, _, _ => .bad 6 0
 | _ + 1, [], out => .ok out 0
 | f + 1, c :: t, out =>
  if c = 60 then .ok out 0
  else if c = 38 then match refR t with
   | .bad e o => .bad e o
   | .ok v n => (textF f ((c :: t).drop n) (out ++ v)).shift n
  else if c = 13 then (textF f ((c :: t).drop (line (c :: t))) (out ++ [10])).shift (line (c :: t))
  else if Lib.hasPrefix (c :: t) [93, 93, 62] then .bad 2 0
  else (textF f t (out ++ [c])).shift 1
/-! ### Tags -/
abbrev At := Tx × Tx
def attr (there : List At) (r : Tx) : Out At := match name r with
 | .bad c o => .bad c o
 | .ok nm n1 => if nm ∈ there.map (·.1) then .bad 4 0 else
  match eat [61] (r.drop (n1 + blanks (r.drop n1))) with
  | .bad c o => .bad c (n1 + blanks (r.drop n1) + o)
  | .ok _ m => match value (r.drop (n1 + blanks (r.drop n1) + m + blanks (r.drop (n1 + blanks (r.drop n1) + m)))) with
   | .bad c o => .bad c (n1 + blanks (r.drop n1) + m + blanks (r.drop (n1 + blanks (r.drop n1) + m)) + o)
   | .ok v n => .ok (nm, v) (n1 + blanks (r.drop n1) + m + blanks (r.drop (n1 + blanks (r.drop n1) + m)) + n)
def tagC (rec : Tx -> List At -> Out (Bool × List At)) (ats : List At) (k : Nat) : Tx -> Out (Bool × List At)
 | [] => .bad 6 k
 | c :: t => if c = 62 then .ok (false, ats) (k + 1)
  else if c = 47 then match eat [47, 62] (c :: t) with
   | .bad e o => .bad e (k + o)
   | .ok _ n => .ok (true, ats) (k + n)
  else if k = 0 then .bad 2 0
  else match attr ats (c :: t) with
   | .bad e o => .bad e (k + o)
   | .ok a n => (rec ((c :: t).drop n) (ats ++ [a])).shift (k + n)
def tagF : Nat -> Tx -> List At -> Out (Bool × List At)
 | 0, _, _ => .bad 6 0
 | f + 1, r, ats => tagC (tagF f) ats (blanks r) (r.drop (blanks r))
structure Tok where
 kind : Nat
 at_ : Nat
 name : Tx
 text : Tx
 attrs : List At
deriving DecidableEq
def tag (r : Tx) : Out Tok := match name (r.drop 1) with
 | .bad c o => .bad c (1 + o)
 | .ok nm n => match tagF (r.length + 1) (r.drop (1 + n)) [] with
  | .bad c o => .bad c (1 + n + o)
  | .ok (e, ats) m => .ok ⟨if e then 2 else 1, 0, nm, [], ats⟩ (1 + n + m)
def low (c : UInt8) : UInt8 := if 65 <= c.toNat /\ c.toNat <= 90 then c + 32 else c
def instr (r : Tx) : Out Tok := match name (r.drop 2) with
 | .bad c o => .bad c (2 + o)
 | .ok nm n => if nm.map low = [120, 109, 108] then .bad 2 2
  else if blanks (r.drop (2 + n)) = 0 then match eat [63, 62] (r.drop (2 + n)) with
   | .bad c o => .bad c (2 + n + o)
   | .ok _ m => .ok ⟨7, 0, nm, [], []⟩ (2 + n + m)
  else match upto [63, 62] (r.drop (2 + n + blanks (r.drop (2 + n)))) with
   | .bad c o => .bad c (2 + n + blanks (r.drop (2 + n)) + o)
   | .ok x m => .ok ⟨7, 0, nm, Utf.lines x, []⟩ (2 + n + blanks (r.drop (2 + n)) + m)
def comment (r : Tx) : Out Tok := match upto [45, 45] (r.drop 4) with
 | .bad c o => .bad c (4 + o)
 | .ok x m => match r.drop (4 + m) with
  | [] => .bad 6 (4 + m)
  | c :: _ => if c = 62 then .ok ⟨6, 0, [], Utf.lines x, []⟩ (4 + m + 1) else .bad 2 (4 + m - 2)
def cdata (r : Tx) : Out Tok := match upto [93, 93, 62] (r.drop 9) with
 | .bad c o => .bad c (9 + o)
 | .ok x m => .ok ⟨5, 0, [], Utf.lines x, []⟩ (9 + m)
def endT (r : Tx) : Out Tok := match name (r.drop 2) with
 | .bad c o => .bad c (2 + o)
 | .ok nm n => match eat [62] (r.drop (2 + n + blanks (r.drop (2 + n)))) with
  | .bad c o => .bad c (2 + n + blanks (r.drop (2 + n)) + o)
  | .ok _ m => .ok ⟨3, 0, nm, [], []⟩ (2 + n + blanks (r.drop (2 + n)) + m)
def cmT : Tx := [60, 33, 45, 45]
def cdT : Tx := [60, 33, 91, 67, 68, 65, 84, 65, 91]
def mark (r : Tx) : Out Tok :=
 if Lib.hasPrefix r cmT then comment r
 else if Lib.hasPrefix r cdT then cdata r
 else if Lib.hasPrefix cmT r \/ Lib.hasPrefix cdT r then .bad 6 r.length
 else .bad 2 0
def chars (r : Tx) : Out Tok := match textF (r.length + 1) r [] with
 | .bad c o => .bad c o
 | .ok x n => .ok ⟨4, 0, [], x, []⟩ n
def token (r : Tx) : Out Tok :=
 if r.head? ≠ some 60 then chars r
 else if Lib.hasPrefix r [60, 33] then mark r
 else if Lib.hasPrefix r [60, 63] then instr r
 else if Lib.hasPrefix r [60, 47] then endT r
 else tag r
/-! ### The declaration -/
def quoted (w r : Tx) : Option (Tx × Nat) :=
 if Lib.hasPrefix r w then
  if Lib.hasPrefix (r.drop (w.length + blanks (r.drop w.length))) [61] then
   match r.drop (w.length + blanks (r.drop w.length) + 1 + blanks (r.drop (w.length + blanks (r.drop w.length) + 1))) with
   | [] => none
   | q :: t => if q = 34 \/ q = 39 then (find [q] t).map fun n => (t.take n, w.length + blanks (r.drop w.length) + 1 + blanks (r.drop (w.length + blanks (r.drop w.length) + 1)) + (n + 2)) else none
  else none
 else none
def verT : Tx := [118, 101, 114, 115, 105, 111, 110]
def encT : Tx := [101, 110, 99, 111, 100, 105, 110, 103]
def staT : Tx := [115, 116, 97, 110, 100, 97, 108, 111, 110, 101]
def stand (r : Tx) (some_ : Bool) : Bool :=
 if Lib.hasPrefix r staT then match quoted staT r with
  | none => false
  | some (y, n) => some_ && (decide (y = [121, 101, 115]) || decide (y = [110, 111])) && decide (n + blanks (r.drop n) = r.length)
 else decide (r = [])
def encd (r : Tx) (some_ : Bool) : Bool :=
 if Lib.hasPrefix r encT then match quoted encT r with
  | none => false
  | some (e, n) => some_ && decide (e.map low = [117, 116, 102, 45, 56]) && stand (r.drop (n + blanks (r.drop n))) (decide (0 < blanks (r.drop n)))
 else stand r some_
def declared (x : Tx) : Bool :=
 decide (0 < blanks x) && match quoted verT (x.drop (blanks x)) with
  | none => false
  | some (v, n) => decide (v = [49, 46, 48]) && encd (x.drop (blanks x + n + blanks (x.drop (blanks x + n)))) (decide (0 < blanks (x.drop (blanks x + n))))
def xmlT : Tx := [60, 63, 120, 109, 108]
def decl (S : Tx) : Out Unit :=
 if Lib.hasPrefix S xmlT /\ GoesOn (nx (S.drop 5) 0).1 = false then
  match upto [63, 62] (S.drop 5) with
  | .bad c o => .bad c (5 + o)
  | .ok x n => if declared x then .ok () (5 + n) else .bad 2 0
 else .ok () 0
/-! ### All -/
def runF : Nat -> Tx -> Nat -> List Tok -> Int × Nat × List Tok
 | 0, _, _, ts => (0, 0, ts)
 | f + 1, r, k, ts => if r = [] then (0, 0, ts) else match token r with
  | .bad c o => (c, k + o, [])
  | .ok t n => runF f (r.drop n) (k + n) (ts ++ [{ t with at_ := k }])
def allF (S : Tx) : Int × Nat × List Tok :=
 if 65536 < S.length then (8, 65536, [])
 else if 0 <= badW S 0 then (1, (badW S 0).toNat, [])
 else match decl S with
  | .bad c o => (c, o, [])
  | .ok _ n => runF (S.length + 1) (S.drop n) n []
/-! ### How far they go -/
theorem eat_len : ∀ {t r : Tx} {n : Nat}, eat t r = .ok () n -> n = t.length /\ n <= r.length
 | [], r, n, h => by
  injection h with h1 h2;subst h2;simp
 | c :: t, [], n, h => by cases h
 | c :: t, b :: r, n, h => by
  rw [eat] at h
  split at h
  ·cases he : eat t r with
   | bad e o => rw [he] at h; cases h
   | ok u m =>
    rw [he] at h;injection h with h1 h2;obtain ⟨g1, g2⟩ := eat_len (n := m) (by rw [he]);simp;omega
  ·cases h
theorem eat_bad : ∀ {t r : Tx} {c : Int} {o : Nat}, eat t r = .bad c o -> o <= r.length /\ (c = 6 \/ c = 2) /\ (c = 6 -> o = r.length)
 | [], r, c, o, h => by cases h
 | a :: t, [], c, o, h => by
  injection h with h1 h2;subst h1; subst h2
  simp
 | a :: t, b :: r, c, o, h => by
  rw [eat] at h
  split at h
  ·cases he : eat t r with
   | ok u m => rw [he] at h; cases h
   | bad e p =>
    rw [he] at h;injection h with h1 h2;obtain ⟨g1, g2, g3⟩ := eat_bad he;subst h1;refine ⟨by simp; omega, g2, fun h => by have := g3 h; simp; omega⟩
  ·injection h with h1 h2;subst h1; subst h2
   exact ⟨by omega, .inr rfl, fun h => by cases h⟩
theorem find_len {t : Tx} : ∀ {r : Tx} {n : Nat}, find t r = some n -> n + t.length <= r.length /\ ∃ x, r = r.take n ++ t ++ x
 | [], n, h => by
  rw [find] at h
  split at h
  ·rename_i ht
   injection h with h;subst h; subst ht
   exact ⟨by simp, [], by simp⟩
  ·cases h
 | b :: r, n, h => by
  rw [find] at h
  split at h
  ·rename_i hp
   injection h with h;subst h;obtain ⟨x, hx⟩ := List.isPrefixOf_iff_prefix.1 hp;refine ⟨by rw [<- hx]; simp, x, by rw [List.take_zero, List.nil_append, hx]⟩
  ·cases hf : find t r with
   | none => rw [hf] at h; cases h
   | some m =>
    rw [hf] at h;injection h with h;obtain ⟨g1, x, g2⟩ := find_len hf;subst h;refine ⟨by simp; omega, x, ?_⟩;simp only [List.take_succ_cons, List.cons_append];rw [<- g2]
theorem upto_len {t r x : Tx} {n : Nat} (h : upto t r = .ok x n) : n <= r.length /\ x.length + t.length = n /\ ∃ y, r = x ++ t ++ y := by
 unfold upto at h
 cases hf : find t r with
 | none => rw [hf] at h; cases h
 | some m =>
  rw [hf] at h;injection h with h1 h2;obtain ⟨g1, y, g2⟩ := find_len hf;subst h1; subst h2
  exact ⟨g1, by rw [List.length_take]; omega, y, g2⟩
theorem blanks_le (r : Tx) : blanks r <= r.length := takeWhile_le Qx.blank r
theorem name_len {r x : Tx} {n : Nat} (h : name r = .ok x n) : 1 <= n /\ n <= r.length /\ x = r.take n /\ n = nameL r := by
 unfold name at h
 split at h
 ·cases h
 ·split at h
  ·cases h
  ·rename_i h0
   injection h with h1 h2;have := nameF_le (r.length + 1) true r;unfold nameL at h0 h1 h2 ⊢;subst h2;exact ⟨by omega, this, h1.symm, rfl⟩
theorem refR_len {t v : Tx} {n : Nat} (h : refR t = .ok v n) : 2 <= n /\ n <= t.length + 1 := by
 unfold refR at h
 cases hf : find [59] t with
 | none => rw [hf] at h; cases h
 | some m =>
  rw [hf] at h;simp only at h;obtain ⟨g1, _⟩ := find_len hf
  split at h
  ·cases h
  ·injection h with h1 h2;simp at g1;omega
theorem line_len {c : UInt8} (t : Tx) : 1 <= line (c :: t) /\ line (c :: t) <= (c :: t).length := by
 unfold line
 split
 ·rename_i h
  have := prefix_len h;exact ⟨by omega, this⟩
 ·simp
theorem shift_ok {α : Type} {k n : Nat} {x : Out α} {v : α} (h : x.shift k = .ok v n) : ∃ m, x = .ok v m /\ n = k + m := by
 cases x with
 | bad c o => cases h
 | ok u m =>
  injection h with h1 h2;subst h1;exact ⟨m, rfl, h2.symm⟩
theorem shift_bad {α : Type} {k o : Nat} {c : Int} {x : Out α} (h : x.shift k = .bad c o) : ∃ p, x = .bad c p /\ o = k + p := by
 cases x with
 | ok u m => cases h
 | bad d p =>
  injection h with h1 h2;subst h1;exact ⟨p, rfl, h2.symm⟩
theorem valF_len : ∀ {f : Nat} {q : UInt8} {r out v : Tx} {n : Nat}, valF f q r out = .ok v n -> 1 <= n /\ n <= r.length
 | 0, q, r, out, v, n, h => by cases h
 | f + 1, q, [], out, v, n, h => by cases h
 | f + 1, q, c :: t, out, v, n, h => by
  rw [valF] at h
  split at h
  ·injection h with h1 h2; simp; omega
  ·split at h
   ·cases h
   ·split at h
    ·cases hr : refR t with
     | bad e o => rw [hr] at h; cases h
     | ok u m =>
      rw [hr] at h;obtain ⟨p, hp, rfl⟩ := shift_ok h;have g1 := refR_len hr;have g2 := valF_len hp;rw [List.length_drop] at g2;simp at g2 ⊢;omega
    ·split at h
     ·obtain ⟨p, hp, rfl⟩ := shift_ok h;have g1 := line_len (c := c) t;have g2 := valF_len hp;rw [List.length_drop] at g2;omega
     ·obtain ⟨p, hp, rfl⟩ := shift_ok h;have g2 := valF_len hp;simp;omega
theorem value_len {r v : Tx} {n : Nat} (h : value r = .ok v n) : 2 <= n /\ n <= r.length := by
 cases r with
 | nil => cases h
 | cons q t =>
  rw [value] at h
  split at h
  ·obtain ⟨p, hp, rfl⟩ := shift_ok h;have := valF_len hp;simp;omega
  ·cases h
theorem textF_len : ∀ {f : Nat} {r out v : Tx} {n : Nat}, textF f r out = .ok v n -> n <= r.length
 | 0, r, out, v, n, h => by cases h
 | f + 1, [], out, v, n, h => by injection h with h1 h2; omega
 | f + 1, c :: t, out, v, n, h => by
  rw [textF] at h
  split at h
  ·injection h with h1 h2; omega
  ·split at h
   ·cases hr : refR t with
    | bad e o => rw [hr] at h; cases h
    | ok u m =>
     rw [hr] at h;obtain ⟨p, hp, rfl⟩ := shift_ok h;have g1 := refR_len hr;have g2 := textF_len hp;rw [List.length_drop] at g2;simp at g2 ⊢;omega
   ·split at h
    ·obtain ⟨p, hp, rfl⟩ := shift_ok h;have g1 := line_len (c := c) t;have g2 := textF_len hp;rw [List.length_drop] at g2;omega
    ·split at h
     ·cases h
     ·obtain ⟨p, hp, rfl⟩ := shift_ok h;have g2 := textF_len hp;simp;omega
theorem attr_len {there : List At} {r : Tx} {a : At} {n : Nat} (h : attr there r = .ok a n) : 4 <= n /\ n <= r.length := by
 unfold attr at h
 cases hn : name r with
 | bad c o => rw [hn] at h; cases h
 | ok nm n1 =>
  rw [hn] at h;simp only at h;obtain ⟨g1, g2, _, _⟩ := name_len hn
  split at h
  ·cases h
  ·split at h
   ·cases h
   ·rename_i u m he
    obtain ⟨g3, g4⟩ := eat_len he
    split at h
    ·cases h
    ·rename_i v n2 hv
     injection h with h1 h2;have g5 := value_len hv;rw [List.length_drop] at g4 g5;simp at g3;omega
theorem tagF_cons (f : Nat) {r : Tx} (ats : List At) {c : UInt8} {t : Tx} (hd : r.drop (blanks r) = c :: t) : tagF (f + 1) r ats =
  if c = 62 then .ok (false, ats) (blanks r + 1)
  else if c = 47 then match eat [47, 62] (c :: t) with
   | .bad e o => .bad e (blanks r + o)
   | .ok _ n => .ok (true, ats) (blanks r + n)
  else if blanks r = 0 then .bad 2 0
  else match attr ats (c :: t) with
   | .bad e o => .bad e (blanks r + o)
   | .ok a n => (tagF f ((c :: t).drop n) (ats ++ [a])).shift (blanks r + n) := by
 show tagC (tagF f) ats (blanks r) (r.drop (blanks r)) = _
 rw [hd];rfl
theorem tagF_nil (f : Nat) {r : Tx} (ats : List At) (hd : r.drop (blanks r) = []) : tagF (f + 1) r ats = .bad 6 (blanks r) := by
 show tagC (tagF f) ats (blanks r) (r.drop (blanks r)) = _
 rw [hd];rfl
theorem tagF_len : ∀ {f : Nat} {r : Tx} {ats : List At} {v : Bool × List At} {n : Nat}, tagF f r ats = .ok v n -> 1 <= n /\ n <= r.length
 | 0, r, ats, v, n, h => by cases h
 | f + 1, r, ats, v, n, h => by
  have hb := blanks_le r
  cases hd : r.drop (blanks r) with
  | nil => rw [tagF_nil f ats hd] at h; cases h
  | cons c t =>
   have hl : (c :: t).length = r.length - blanks r := by rw [<- hd, List.length_drop]
   simp at hl;rw [tagF_cons f ats hd] at h
   by_cases h1 : c = 62
   ·rw [if_pos h1] at h;injection h with h1 h2;omega
   ·rw [if_neg h1] at h
    by_cases h2 : c = 47
    ·rw [if_pos h2] at h
     cases he : eat [47, 62] (c :: t) with
     | bad e o => rw [he] at h; cases h
     | ok u m =>
      rw [he] at h;injection h with h1 h2;obtain ⟨g3, g4⟩ := eat_len he;simp at g3 g4;omega
    ·rw [if_neg h2] at h
     by_cases h3 : blanks r = 0
     ·rw [if_pos h3] at h; cases h
     ·rw [if_neg h3] at h
      cases ha : attr ats (c :: t) with
      | bad e o => rw [ha] at h; cases h
      | ok a m =>
       rw [ha] at h;obtain ⟨p, hp, rfl⟩ := shift_ok h;have g1 := attr_len ha;have g2 := tagF_len hp;rw [List.length_drop] at g2;simp at g1 g2;omega
theorem tag_len {r : Tx} {t : Tok} {n : Nat} (h : tag r = .ok t n) : 1 <= n /\ n <= r.length := by
 unfold tag at h
 split at h
 ·cases h
 ·rename_i nm m hn
  obtain ⟨g1, g2, _, _⟩ := name_len hn
  split at h
  ·cases h
  ·rename_i e ats p ht
   injection h with h1 h2;have g3 := tagF_len ht;rw [List.length_drop] at g2 g3;omega
theorem instr_len {r : Tx} {t : Tok} {n : Nat} (h : instr r = .ok t n) : 1 <= n /\ n <= r.length := by
 unfold instr at h
 split at h
 ·cases h
 ·rename_i nm m hn
  obtain ⟨g1, g2, _, _⟩ := name_len hn;rw [List.length_drop] at g2
  split at h
  ·cases h
  ·split at h
   ·split at h
    ·cases h
    ·rename_i u p he
     injection h with h1 h2;obtain ⟨g3, g4⟩ := eat_len he;rw [List.length_drop] at g4;omega
   ·have hb := blanks_le (r.drop (2 + m));rw [List.length_drop] at hb
    split at h
    ·cases h
    ·rename_i x p hu
     injection h with h1 h2;obtain ⟨g3, _⟩ := upto_len hu;rw [List.length_drop] at g3;omega
theorem comment_len {r : Tx} {t : Tok} {n : Nat} (h : comment r = .ok t n) : 1 <= n /\ n <= r.length := by
 unfold comment at h
 split at h
 ·cases h
 ·rename_i x m hu
  obtain ⟨g3, _⟩ := upto_len hu
  split at h
  ·cases h
  ·rename_i c y hd
   split at h
   ·injection h with h1 h2;have hl : (c :: y).length = r.length - (4 + m) := (by rw [<- hd, List.length_drop]);simp at hl;omega
   ·cases h
theorem cdata_len {r : Tx} {t : Tok} {n : Nat} (h : cdata r = .ok t n) : 1 <= n /\ n <= r.length := by
 unfold cdata at h
 split at h
 ·cases h
 ·rename_i x m hu
  obtain ⟨g3, g4, _⟩ := upto_len hu;injection h with h1 h2;rw [List.length_drop] at g3;simp at g4;omega
theorem endT_len {r : Tx} {t : Tok} {n : Nat} (h : endT r = .ok t n) : 1 <= n /\ n <= r.length := by
 unfold endT at h
 split at h
 ·cases h
 ·rename_i nm m hn
  obtain ⟨g1, g2, _, _⟩ := name_len hn;rw [List.length_drop] at g2;have hb := blanks_le (r.drop (2 + m));rw [List.length_drop] at hb
  split at h
  ·cases h
  ·rename_i u p he
   injection h with h1 h2;obtain ⟨g3, g4⟩ := eat_len he;rw [List.length_drop] at g4;omega
theorem mark_len {r : Tx} {t : Tok} {n : Nat} (h : mark r = .ok t n) : 1 <= n /\ n <= r.length := by
 unfold mark at h
 split at h
 ·exact comment_len h
 ·split at h
  ·exact cdata_len h
  ·split at h <;> cases h
theorem chars_len {r : Tx} {t : Tok} {n : Nat} (h : chars r = .ok t n) (h0 : r ≠ []) (h1 : r.head? ≠ some 60) : 1 <= n /\ n <= r.length := by
 unfold chars at h
 cases r with
 | nil => exact absurd rfl h0
 | cons c s =>
  split at h
  ·cases h
  ·rename_i x m ht
   injection h with h2 h3;subst h3;have g := textF_len ht;refine ⟨?_, g⟩;rw [textF] at ht;rw [if_neg (fun e => h1 (by rw [e]; rfl))] at ht
   split at ht
   ·split at ht
    ·cases ht
    ·rename_i v k hr
     obtain ⟨p, _, rfl⟩ := shift_ok ht;have := refR_len hr;omega
   ·split at ht
    ·obtain ⟨p, _, rfl⟩ := shift_ok ht;have := line_len (c := c) s;omega
    ·split at ht
     ·cases ht
     ·obtain ⟨p, _, rfl⟩ := shift_ok ht;omega
theorem token_len {r : Tx} {t : Tok} {n : Nat} (h : token r = .ok t n) (h0 : r ≠ []) : 1 <= n /\ n <= r.length := by
 unfold token at h
 split at h
 ·rename_i h1; exact chars_len h h0 h1
 ·split at h
  ·exact mark_len h
  ·split at h
   ·exact instr_len h
   ·split at h
    ·exact endT_len h
    ·exact tag_len h
theorem decl_len {S : Tx} {n : Nat} (h : decl S = .ok () n) : n <= S.length := by
 unfold decl at h
 split at h
 ·rename_i hp
  have g := prefix_len hp.1
  split at h
  ·cases h
  ·rename_i x m hu
   obtain ⟨g3, _⟩ := upto_len hu;rw [List.length_drop] at g3
   split at h
   ·injection h with h1 h2;have : xmlT.length = 5 := rfl;omega
   ·cases h
 ·injection h with h1 h2;omega
end Go.Proofs.YtokdnhdfmgfkeaaGreatDoor.Xl
end

section
namespace Go.Proofs.YtokdnhdfmgfkeaaGreatDoor
open Go.RowKit
theorem strOf_size' (l : List UInt8) : (strOf l).size = l.length := by simp [strOf, ByteArray.size]
theorem strOf_data' (l : List UInt8) : (strOf l).data.toList = l := rfl
theorem strOf_add (a b : List UInt8) : strOf a ++ strOf b = strOf (a ++ b) := by
 unfold strOf;apply ByteArray.ext;simp [ByteArray.data_append]
theorem strOf_cut (l : List UInt8) (a b : Nat) : (strOf l).extract a b = strOf ((l.drop a).take (b - a)) := by
 apply ByteArray.ext;apply Array.ext';rw [ByteArray.data_extract, Array.toList_extract];rfl
theorem strOf_empty (l : List UInt8) : (strOf l).toList.isEmpty = l.isEmpty := by
 rw [Lib.toList_data];rfl
theorem str_beq (a b : ByteArray) : (a.toList == b.toList) = decide (a = b) := by
 rw [Lib.toList_data, Lib.toList_data, Bool.eq_iff_iff, beq_iff_eq, decide_eq_true_eq];constructor
 ·intro h;apply ByteArray.ext;exact Array.ext' h
 ·intro h;rw [h]
end Go.Proofs.YtokdnhdfmgfkeaaGreatDoor
end
