/- Texts that XML has, cut and joined; names and numbers that stand in them. -/
import Derived.Test.YtcecmbbhjaeodaaGreatDoorMUtfE
import Derived.Lib.Bytealg
import Derived.Lib.SlTrimSet
section
namespace Go.Proofs.YtcecmbbhjaeodaaGreatDoor.Qx
open Go.RowKit UtfW

theorem bt_drop0 (l : List UInt8) (k i : Nat) : bt l (k + i) = bt (l.drop k) i := by
  unfold bt
  rw [List.getElem?_drop]

theorem nx_drop (l : List UInt8) (k : Nat) : nx l k = nx (l.drop k) 0 := by
  unfold nx
  by_cases h : k < l.length
  · rw [if_pos h, if_pos (by rw [List.length_drop]; omega)]
    have h0 := bt_drop0 l k 0
    rw [List.length_drop, Nat.sub_zero, bt_drop0 l k 1, bt_drop0 l k 2, bt_drop0 l k 3, ← bt_drop0 l k 0]
    rfl
  · rw [if_neg h, if_neg (by rw [List.length_drop]; omega)]

def blank (b : UInt8) : Bool := Blank (b.toNat : Int)
def skip (r : List UInt8) : List UInt8 := r.dropWhile blank
def dig (b : UInt8) : Bool := decide (48 ≤ (b.toNat : Int)) && decide ((b.toNat : Int) ≤ 57)
def digits (r : List UInt8) : Nat := (r.takeWhile dig).length
/-- How many bytes of a name stand here. -/
def nameF : Nat → Bool → List UInt8 → Nat
  | 0, _, _ => 0
  | f + 1, first, r => if (first && !Begins (nx r 0).1) || !GoesOn (nx r 0).1 then 0 else (nx r 0).2 + nameF f false (r.drop (nx r 0).2)
def nameL (r : List UInt8) : Nat := nameF (r.length + 1) true r
/-- How many bytes of a number stand here. -/
def number (r : List UInt8) : Option Nat :=
  if r[digits r]? = some 46 then
    (if digits r + digits (r.drop (digits r + 1)) = 0 then none else some (digits r + (1 + digits (r.drop (digits r + 1)))))
  else if digits r = 0 then none else some (digits r)

def ops : List (List UInt8) := [[97, 110, 100], [111, 114], [100, 105, 118], [109, 111, 100]]
def types : List (List UInt8) := [[99, 111, 109, 109, 101, 110, 116], [116, 101, 120, 116], [112, 114, 111, 99, 101, 115, 115, 105, 110, 103, 45, 105, 110, 115, 116, 114, 117, 99, 116, 105, 111, 110], [110, 111, 100, 101]]
def opens : List (List UInt8) := [[64], [58, 58], [40], [91], [44]]
def signs1 : List (List UInt8) := [[47, 47], [33, 61], [60, 61], [62, 61], [47], [124], [43], [45], [61], [60], [62]]
def signs2 : List (List UInt8) := [[58, 58], [46, 46], [40], [41], [91], [93], [64], [44], [46]]

/-- What a place gives: what is wrong, or a token and how many bytes it has. -/
inductive Res where
  | bad (code : Int)
  | tok (kd : Int) (tx : List UInt8) (n : Nat)

/-- Whether a token ends an operand. -/
def opdT (kd : Int) (tx : List UInt8) : Bool := if kd = 5 then false else if kd = 6 then !decide (tx ∈ opens) else true

/-- What follows a word: an axis's mark, a parenthesis, or neither. -/
def fol (r : List UInt8) : Nat := if Lib.hasPrefix r [58, 58] then 1 else if Lib.hasPrefix r [40] then 2 else 0
def wkind (tx : List UInt8) (f : Nat) : Int := if f = 1 then 4 else if f = 2 then (if tx ∈ types then 3 else 2) else 1

def word (op : Bool) (r : List UInt8) (n : Nat) : Res :=
  if op then (if r.take n ∈ ops then .tok 5 (r.take n) n else .bad 61) else .tok (wkind (r.take n) (fol (skip (r.drop n)))) (r.take n) n

def sign (r : List UInt8) : Res :=
  match signs1.find? fun p => Lib.hasPrefix r p with
  | some p => .tok 5 p p.length
  | none => match signs2.find? fun p => Lib.hasPrefix r p with
    | some p => .tok 6 p p.length
    | none => .bad 60

def quoted (c : UInt8) (t : List UInt8) : Res :=
  if Lib.indexByte t c < 0 then .bad 60 else .tok 7 (t.take (Lib.indexByte t c).toNat) ((Lib.indexByte t c).toNat + 2)

def variable_ (t : List UInt8) : Res :=
  if nameL (skip t) = 0 then .bad 60 else .tok 9 ((skip t).take (nameL (skip t))) (1 + (t.length - (skip t).length) + nameL (skip t))

def rest_ (op : Bool) (r : List UInt8) : Res := if 0 < nameL r then word op r (nameL r) else sign r

def tokenC (op : Bool) (c : UInt8) (t : List UInt8) : Res :=
  if c = 34 ∨ c = 39 then quoted c t
  else if c = 36 then variable_ t
  else if c = 42 then .tok (if op then 5 else 1) [42] 1
  else if c = 46 ∨ dig c = true then
    match number (c :: t) with
    | some n => .tok 8 ((c :: t).take n) n
    | none => rest_ op (c :: t)
  else rest_ op (c :: t)
def token (op : Bool) : List UInt8 → Res
  | [] => .bad 60
  | c :: t => tokenC op c t
theorem token_cons (op : Bool) (c : UInt8) (t : List UInt8) : token op (c :: t) = tokenC op c t := rfl

abbrev Tok := Int × Int × List UInt8
def opd (ts : List Tok) : Bool := match ts.getLast? with | none => false | some t => opdT t.1 t.2.2

/-- Behind the blanks. -/
def sk (S : List UInt8) (k : Nat) : Nat := k + ((S.drop k).takeWhile blank).length

/-- All tokens from a place on, at which there is no blank; or what is wrong, and where. -/
def runF : Nat → List UInt8 → Nat → List Tok → Int × Int × List Tok
  | 0, _, _, ts => (0, 0, ts)
  | f + 1, S, k, ts => if S.length ≤ k then (0, 0, ts) else
    match token (opd ts) (S.drop k) with
    | .bad c => (c, (k : Int), ts)
    | .tok kd tx n => runF f S (sk S (k + n)) (ts ++ [(kd, (k : Int), tx)])

def allF (S : List UInt8) : Int × Int × List Tok :=
  if 1000 < S.length then (8, 1000, [])
  else if 0 ≤ badW S 0 then (1, badW S 0, [])
  else runF (S.length + 1) S (sk S 0) []

/-! ### First facts -/

theorem skip_drop (l : List UInt8) : skip l = l.drop (l.takeWhile blank).length := by
  unfold skip
  induction l with
  | nil => rfl
  | cons b l ih =>
    rw [List.dropWhile_cons, List.takeWhile_cons]
    cases blank b
    · rfl
    · simpa using ih
theorem takeWhile_le (p : UInt8 → Bool) (l : List UInt8) : (l.takeWhile p).length ≤ l.length := by
  induction l with
  | nil => simp
  | cons b l ih =>
    rw [List.takeWhile_cons]
    cases p b
    · simp
    · simpa using ih
theorem skip_len (l : List UInt8) : (l.takeWhile blank).length + (skip l).length = l.length := by
  have := takeWhile_le blank l
  rw [skip_drop, List.length_drop]
  omega
theorem skip_skip (l : List UInt8) : skip (skip l) = skip l := by
  unfold skip
  induction l with
  | nil => rfl
  | cons b l ih =>
    rw [List.dropWhile_cons]
    split
    · exact ih
    · rename_i h
      rw [List.dropWhile_cons, if_neg h]
theorem sk_drop (S : List UInt8) (k : Nat) : S.drop (sk S k) = skip (S.drop k) := by
  unfold sk
  rw [← List.drop_drop, skip_drop]
theorem sk_ge (S : List UInt8) (k : Nat) : k ≤ sk S k := by unfold sk; omega
theorem sk_le (S : List UInt8) (k : Nat) (h : k ≤ S.length) : sk S k ≤ S.length := by
  have := takeWhile_le blank (S.drop k)
  rw [List.length_drop] at this
  unfold sk
  omega

theorem nameF_le : ∀ (f : Nat) (first : Bool) (r : List UInt8), nameF f first r ≤ r.length
  | 0, _, _ => by simp [nameF]
  | f + 1, first, r => by
    rw [nameF]
    split
    · omega
    · have h := nameF_le f false (r.drop (nx r 0).2)
      rw [List.length_drop] at h
      by_cases hr : 0 < r.length
      · have := nx_le hr
        omega
      · have : nx r 0 = (0, 0) := by
          unfold nx
          rw [if_neg hr]
        rw [this] at h ⊢
        simp only at h ⊢
        omega

theorem digits_le (r : List UInt8) : digits r ≤ r.length := takeWhile_le dig r

theorem number_le {r : List UInt8} {n : Nat} (h : number r = some n) : 1 ≤ n ∧ n ≤ r.length := by
  have h1 := digits_le r
  have h2 := digits_le (r.drop (digits r + 1))
  rw [List.length_drop] at h2
  unfold number at h
  split at h
  · rename_i hg
    have := (List.getElem?_eq_some_iff.1 hg).1
    split at h
    · cases h
    · injection h with h
      omega
  · split at h
    · cases h
    · injection h with h
      omega

theorem indexByte_lt (l : List UInt8) (c : UInt8) : Lib.indexByte l c < l.length := by
  induction l with
  | nil => show (-1 : Int) < ((0 : Nat) : Int); decide
  | cons b l ih =>
    have := Lib.indexByte_ge l c
    unfold Lib.indexByte
    rw [List.length_cons]
    split
    · omega
    · split
      · omega
      · omega

theorem prefix_len {r p : List UInt8} (h : Lib.hasPrefix r p = true) : p.length ≤ r.length := by
  unfold Lib.hasPrefix at h
  exact (List.isPrefixOf_iff_prefix.1 h).length_le

theorem word_len {op : Bool} {r tx : List UInt8} {kd : Int} {n m : Nat} (h : word op r m = .tok kd tx n) : n = m := by
  unfold word at h
  split at h
  · split at h
    · injection h with _ _ h; exact h.symm
    · cases h
  · injection h with _ _ h; exact h.symm

theorem signs1_pos : ∀ p ∈ signs1, 1 ≤ p.length := by decide
theorem signs2_pos : ∀ p ∈ signs2, 1 ≤ p.length := by decide
theorem sign_len {r tx : List UInt8} {kd : Int} {n : Nat} (h : sign r = .tok kd tx n) : 1 ≤ n ∧ n ≤ r.length := by
  unfold sign at h
  split at h
  · rename_i p hp
    injection h with _ _ h
    have h1 := List.mem_of_find?_eq_some hp
    have h2 := prefix_len (List.find?_some hp)
    subst h
    exact ⟨signs1_pos _ h1, h2⟩
  · split at h
    · rename_i p hp
      injection h with _ _ h
      have h1 := List.mem_of_find?_eq_some hp
      have h2 := prefix_len (List.find?_some hp)
      subst h
      exact ⟨signs2_pos _ h1, h2⟩
    · cases h

theorem rest_len {op : Bool} {r tx : List UInt8} {kd : Int} {n : Nat} (h : rest_ op r = .tok kd tx n) : 1 ≤ n ∧ n ≤ r.length := by
  unfold rest_ at h
  split at h
  · have := word_len h
    have := nameF_le (r.length + 1) true r
    unfold nameL at *
    omega
  · exact sign_len h

theorem token_len {op : Bool} {r tx : List UInt8} {kd : Int} {n : Nat} (h : token op r = .tok kd tx n) : 1 ≤ n ∧ n ≤ r.length := by
  cases r with
  | nil => cases h
  | cons c t =>
    rw [token_cons] at h
    unfold tokenC at h
    split at h
    · unfold quoted at h
      split at h
      · cases h
      · injection h with _ _ h
        have := indexByte_lt t c
        rw [List.length_cons]
        omega
    · split at h
      · unfold variable_ at h
        split at h
        · cases h
        · injection h with _ _ h
          have h1 := skip_len t
          have h2 := nameF_le ((skip t).length + 1) true (skip t)
          unfold nameL at *
          rw [List.length_cons]
          omega
      · split at h
        · injection h with _ _ h
          rw [List.length_cons]
          omega
        · split at h
          · split at h
            · rename_i m hm
              injection h with _ _ h
              subst h
              exact number_le hm
            · exact rest_len h
          · exact rest_len h

theorem sign_bad {r : List UInt8} {c : Int} (h : sign r = .bad c) : c = 60 := by
  unfold sign at h
  split at h
  · cases h
  · split at h
    · cases h
    · injection h with h; exact h.symm
theorem rest_bad {op : Bool} {r : List UInt8} {c : Int} (h : rest_ op r = .bad c) : c = 60 ∨ c = 61 := by
  unfold rest_ at h
  split at h
  · unfold word at h
    split at h
    · split at h
      · cases h
      · injection h with h; exact .inr h.symm
    · cases h
  · exact .inl (sign_bad h)
theorem token_bad {op : Bool} {r : List UInt8} {c : Int} (h : token op r = .bad c) : c = 60 ∨ c = 61 := by
  cases r with
  | nil => injection h with h; exact .inl h.symm
  | cons d t =>
    rw [token_cons] at h
    unfold tokenC at h
    split at h
    · unfold quoted at h
      split at h
      · injection h with h; exact .inl h.symm
      · cases h
    · split at h
      · unfold variable_ at h
        split at h
        · injection h with h; exact .inl h.symm
        · cases h
      · split at h
        · cases h
        · split at h
          · split at h
            · cases h
            · exact rest_bad h
          · exact rest_bad h
end Go.Proofs.YtcecmbbhjaeodaaGreatDoor.Qx
end

section
namespace Go.Proofs.YtcecmbbhjaeodaaGreatDoor.Qx
open Go.RowKit UtfW

/-- A text that XML has. -/
def V (l : List UInt8) : Prop := ∃ rs : List Nat, (∀ r ∈ rs, Utf.Char (r : Nat) = true) ∧ l = E rs
theorem V.nil : V [] := ⟨[], fun r h => (by cases h), rfl⟩
theorem V.append {a b : List UInt8} (ha : V a) (hb : V b) : V (a ++ b) := by
  obtain ⟨p, hp, rfl⟩ := ha
  obtain ⟨q, hq, rfl⟩ := hb
  exact ⟨p ++ q, fun r h => (List.mem_append.1 h).elim (hp r) (hq r), (E_append p q).symm⟩

theorem encB_ascii {v : Nat} (h : v < 128) : encB (v : Nat) = [UInt8.ofNat v] := encB_of (ns := [v]) ((Utf.enc1 _ _).2 ⟨h, rfl⟩)
theorem encB_byte {c : UInt8} (h : c.toNat < 128) : encB (c.toNat : Nat) = [c] := by rw [encB_ascii h]; simp

theorem enc_bytes {v : Nat} (hv : isRune (v : Nat) = true) : (v < 128 ∧ encB (v : Nat) = [UInt8.ofNat v]) ∨ (∀ b ∈ encB (v : Nat), 128 ≤ b.toNat) := by
  rcases enc_cases hv with ⟨a, e⟩ | ⟨a, b, e⟩ | ⟨a, b, c, e⟩ | ⟨a, b, e⟩
  · exact .inl ⟨a, encB_ascii a⟩
  all_goals
    right
    rw [encB_of e]
    intro x hx
    simp only [List.map_cons, List.map_nil, List.mem_cons, List.not_mem_nil, or_false] at hx
    rcases hx with rfl | rfl | rfl | rfl <;> simp <;> omega

theorem V.one {c : UInt8} (h : c.toNat < 128) (hc : Utf.Char (c.toNat : Nat) = true) : V [c] :=
  ⟨[c.toNat], fun r hr => (by simp at hr; subst hr; exact hc), by rw [E_one, encB_byte h]⟩
theorem V.all {l : List UInt8} (h : ∀ c ∈ l, c.toNat < 128 ∧ Utf.Char (c.toNat : Nat) = true) : V l := by
  induction l with
  | nil => exact V.nil
  | cons c l ih =>
    have h1 := h c (List.mem_cons_self ..)
    exact V.append (V.one h1.1 h1.2) (ih fun x hx => h x (List.mem_cons_of_mem _ hx))

theorem V.tail {c : UInt8} {t : List UInt8} (h : V (c :: t)) (hc : c.toNat < 128) : V t := by
  obtain ⟨rs, hr, e⟩ := h
  cases rs with
  | nil => cases e
  | cons r rs =>
    have hv := isRune_of_char (hr r (List.mem_cons_self ..))
    rw [E_cons] at e
    rcases enc_bytes hv with ⟨_, h1⟩ | h1
    · rw [h1] at e
      injection e with _ e
      exact ⟨rs, fun x hx => hr x (List.mem_cons_of_mem _ hx), e⟩
    · exfalso
      have hp := encB_pos hv
      cases hE : encB (r : Nat) with
      | nil => rw [hE] at hp; simp at hp
      | cons b l =>
        rw [hE] at e h1
        injection e with e _
        subst e
        have := h1 c (List.mem_cons_self ..)
        omega
theorem V.drop {a b : List UInt8} (h : V (a ++ b)) (ha : ∀ c ∈ a, c.toNat < 128) : V b := by
  induction a with
  | nil => exact h
  | cons c a ih => exact ih (V.tail h (ha c (List.mem_cons_self ..))) fun x hx => ha x (List.mem_cons_of_mem _ hx)

/-- Cut at an ASCII byte. -/
theorem V.split {c : UInt8} {b : List UInt8} (hc : c.toNat < 128) : ∀ {rs : List Nat} {a : List UInt8}, (∀ r ∈ rs, Utf.Char (r : Nat) = true) → a ++ c :: b = E rs → V a ∧ V (c :: b)
  | [], a, _, e => by cases a <;> cases e
  | r :: rs, a, hr, e => by
    have hv := isRune_of_char (hr r (List.mem_cons_self ..))
    have hr' : ∀ x ∈ rs, Utf.Char (x : Nat) = true := fun x hx => hr x (List.mem_cons_of_mem _ hx)
    have hp := encB_pos hv
    by_cases ha : a = []
    · subst ha
      exact ⟨V.nil, r :: rs, hr, e⟩
    · rw [E_cons] at e
      have hle : (encB (r : Nat)).length ≤ a.length := by
        rcases enc_bytes hv with ⟨_, h1⟩ | h1
        · rw [h1]
          have := List.length_pos_iff.2 ha
          simp
          omega
        · rcases Nat.lt_or_ge a.length (encB (r : Nat)).length with h2 | h2
          · exfalso
            have h3 : (encB (r : Nat) ++ E rs)[a.length]? = some c := by
              rw [← e]
              simp
            rw [List.getElem?_append_left h2] at h3
            have := h1 c (List.mem_of_getElem? h3)
            omega
          · exact h2
      have h4 : a = encB (r : Nat) ++ a.drop (encB (r : Nat)).length := by
        have := congrArg (List.take (encB (r : Nat)).length) e
        rw [List.take_append_of_le_length hle, List.take_append_of_le_length (Nat.le_refl _), List.take_length] at this
        have h5 := List.take_append_drop (encB (r : Nat)).length a
        rw [this] at h5
        exact h5.symm
      generalize a.drop (encB (r : Nat)).length = a' at h4
      subst h4
      rw [List.append_assoc] at e
      obtain ⟨i1, i2⟩ := V.split hc hr' (List.append_cancel_left e)
      exact ⟨V.append ⟨[r], fun x hx => (by simp at hx; subst hx; exact hr x (List.mem_cons_self ..)), by rw [E_one]⟩ i1, i2⟩
theorem V.cut {c : UInt8} {a b : List UInt8} (hc : c.toNat < 128) (h : V (a ++ c :: b)) : V a ∧ V b := by
  obtain ⟨rs, hr, e⟩ := h
  obtain ⟨h1, h2⟩ := V.split hc hr e
  exact ⟨h1, h2.tail hc⟩

/-! ### Bad -/

theorem badW_V {l : List UInt8} (h : V l) : badW l 0 = -1 := by
  obtain ⟨rs, hr, e⟩ := h
  exact bad_of_runes l l.length 0 rs (by omega) (runesW_E l rs 0 hr (by rw [List.drop_zero]; exact e))

theorem nx_E {v : Nat} (hc : Utf.Char (v : Nat) = true) (rest : List UInt8) : nx (encB (v : Nat) ++ rest) 0 = (v, (encB (v : Nat)).length) := by
  have := nx_enc (isRune_of_char hc) (l := encB (v : Nat) ++ rest) (k := 0) (rest := rest) List.drop_zero
  rw [if_pos hc] at this
  exact this

/-- A text's first runes, and what behind them is none. -/
theorem runes_split : ∀ (n : Nat) (l : List UInt8), l.length ≤ n → ∃ rs u, (∀ r ∈ rs, Utf.Char (r : Nat) = true) ∧ l = E rs ++ u ∧ (u = [] ∨ (u ≠ [] ∧ (nx u 0).2 = 0))
  | 0, l, h => by
    have : l = [] := List.eq_nil_of_length_eq_zero (by omega)
    subst this
    exact ⟨[], [], fun r h => (by cases h), rfl, .inl rfl⟩
  | n + 1, l, h => by
    by_cases hl : l = []
    · subst hl
      exact ⟨[], [], fun r h => (by cases h), rfl, .inl rfl⟩
    · by_cases h0 : (nx l 0).2 = 0
      · exact ⟨[], l, fun r h => (by cases h), rfl, .inr ⟨hl, h0⟩⟩
      · obtain ⟨o1, o2, o3, o4, o5⟩ := nx_own h0
        rw [own_iff o2 o3 o1, Bool.and_eq_true, decide_eq_true_eq, ← o5, List.drop_zero] at o4
        obtain ⟨rs, u, h1, h2, h3⟩ := runes_split n (l.drop (nx l 0).2) (by rw [List.length_drop]; omega)
        refine ⟨(nx l 0).1 :: rs, u, fun r hr => ?_, ?_, h3⟩
        · rcases List.mem_cons.1 hr with rfl | hr
          · exact o4.2
          · exact h1 r hr
        · rw [E_cons, o4.1, List.append_assoc, ← h2, List.take_append_drop]

theorem badW_E {l u : List UInt8} (hu : u ≠ []) (h0 : (nx u 0).2 = 0) : ∀ (rs : List Nat) (k : Nat), (∀ r ∈ rs, Utf.Char (r : Nat) = true) → l.drop k = E rs ++ u → badW l k = (k + (E rs).length : Nat)
  | [], k, _, h => by
    have h' : l.drop k = u := h
    have hk : k < l.length := by
      rcases Nat.lt_or_ge k l.length with h1 | h1
      · exact h1
      · rw [List.drop_eq_nil_of_le h1] at h'
        exact absurd h'.symm hu
    rw [badW_stop hk (by rw [nx_drop, h', h0])]
    rfl
  | r :: rs, k, hr, h => by
    have hc := hr r (List.mem_cons_self ..)
    have hp := encB_pos (isRune_of_char hc)
    rw [E_cons, List.append_assoc] at h
    have hk : k < l.length := by
      have := congrArg List.length h
      rw [List.length_drop, List.length_append] at this
      omega
    have hn : nx l k = (r, (encB (r : Nat)).length) := by rw [nx_drop, h, nx_E hc]
    rw [badW_on hk (by rw [hn]; simp only; omega), hn, badW_E hu h0 rs _ (fun x hx => hr x (List.mem_cons_of_mem _ hx)) (drop_step h), E_cons, List.length_append]
    congr 1
    omega

theorem nx_snoc {u : List UInt8} {c : UInt8} (hu : u ≠ []) (h0 : (nx u 0).2 = 0) (hc : c.toNat < 128) : (nx (u ++ [c]) 0).2 = 0 := by
  by_cases h1 : (nx (u ++ [c]) 0).2 = 0
  · exact h1
  · exfalso
    obtain ⟨o1, o2, o3, o4, o5⟩ := nx_own h1
    rw [own_iff o2 o3 o1, Bool.and_eq_true, decide_eq_true_eq, ← o5, List.drop_zero] at o4
    obtain ⟨e, hch⟩ := o4
    have hv := isRune_of_char hch
    generalize (nx (u ++ [c]) 0).1 = v at *
    generalize (nx (u ++ [c]) 0).2 = n at *
    have h2 := List.take_append_drop n (u ++ [c])
    rw [← e] at h2
    rcases List.eq_nil_or_concat ((u ++ [c]).drop n) with h3 | ⟨r', d, h3⟩
    · rw [h3, List.append_nil] at h2
      rcases enc_bytes hv with ⟨_, h4⟩ | h4
      · rw [h4] at h2
        have h5 := congrArg List.length h2
        have h6 := List.length_pos_iff.2 hu
        rw [List.length_append, List.length_singleton, List.length_singleton] at h5
        omega
      · have := h4 c (by rw [h2]; simp)
        omega
    · rw [h3, List.concat_eq_append, ← List.append_assoc] at h2
      have h5 := (List.append_inj' h2 rfl).1
      have hp := encB_pos hv
      rw [← h5, nx_E hch] at h0
      simp only at h0
      omega

theorem badW_quote {s : List UInt8} {q : UInt8} (hq : q.toNat < 128) (hc : Utf.Char (q.toNat : Nat) = true) :
    badW (q :: (s ++ [q])) 0 = if 0 ≤ badW s 0 then badW s 0 + 1 else -1 := by
  obtain ⟨rs, u, h1, h2, h3⟩ := runes_split s.length s (Nat.le_refl _)
  have hE : ∀ r ∈ q.toNat :: rs, Utf.Char (r : Nat) = true := fun r hr => (List.mem_cons.1 hr).elim (fun e => e ▸ hc) (h1 r)
  have hEq : E (q.toNat :: rs) = q :: E rs := by rw [E_cons, encB_byte hq]; rfl
  rcases h3 with rfl | ⟨hu, h0⟩
  · rw [List.append_nil] at h2
    have hs : badW s 0 = -1 := badW_V ⟨rs, h1, h2⟩
    rw [hs, if_neg (by omega)]
    exact badW_V (V.append (V.one hq hc) (V.append ⟨rs, h1, h2⟩ (V.one hq hc)))
  · have hs := badW_E (l := s) hu h0 rs 0 h1 (by rw [List.drop_zero]; exact h2)
    rw [hs, if_pos (by omega)]
    have ht := badW_E (l := q :: (s ++ [q])) (u := u ++ [q]) (by simp) (nx_snoc hu h0 hq) (q.toNat :: rs) 0 hE (by rw [List.drop_zero, hEq, h2]; simp)
    rw [ht, hEq]
    simp

/-! ### Names -/

theorem E_ge {rs : List Nat} (h : ∀ r ∈ rs, Utf.Char (r : Nat) = true) : rs.length ≤ (E rs).length := by
  induction rs with
  | nil => simp
  | cons r rs ih =>
    have hp := encB_pos (isRune_of_char (h r (List.mem_cons_self ..)))
    have := ih fun x hx => h x (List.mem_cons_of_mem _ hx)
    rw [E_cons, List.length_append, List.length_cons]
    omega

theorem nameF_E (f : Nat) (first : Bool) {v : Nat} (hc : Utf.Char (v : Nat) = true) (rest : List UInt8) :
    nameF (f + 1) first (encB (v : Nat) ++ rest) = if ((first && !Begins (v : Nat)) || !GoesOn (v : Nat)) = true then 0 else (encB (v : Nat)).length + nameF f false rest := by
  rw [nameF, nx_E hc]
  simp

theorem nameF_nil (f : Nat) (first : Bool) : nameF f first [] = 0 := by
  cases f with
  | zero => rfl
  | succ f =>
    have h1 : nx ([] : List UInt8) 0 = (0, 0) := rfl
    have h2 : GoesOn ((0 : Nat) : Int) = false := by decide
    rw [nameF, h1]
    simp only [h2]
    simp

theorem name_split : ∀ (rs : List Nat) (f : Nat) (first : Bool), rs.length < f → (∀ r ∈ rs, Utf.Char (r : Nat) = true) → ∃ qs ss, rs = qs ++ ss ∧ nameF f first (E rs) = (E qs).length ∧ (∀ q ∈ qs, GoesOn (q : Nat) = true) ∧ (first = true → ∀ q, qs.head? = some q → Begins (q : Nat) = true)
  | [], f, first, _, _ => ⟨[], [], rfl, nameF_nil f first, fun q h => (by cases h), fun _ q h => (by cases h)⟩
  | r :: rs, 0, first, h, _ => absurd h (by omega)
  | r :: rs, f + 1, first, h, hr => by
    have hc := hr r (List.mem_cons_self ..)
    rw [E_cons, nameF_E f first hc]
    split
    · exact ⟨[], r :: rs, rfl, rfl, fun q h => (by cases h), fun _ q h => (by cases h)⟩
    · rename_i hg
      rw [Bool.or_eq_true, not_or, Bool.and_eq_true] at hg
      obtain ⟨qs, ss, h1, h2, h3, _⟩ := name_split rs f false (by simp at h; omega) fun x hx => hr x (List.mem_cons_of_mem _ hx)
      have hgo : GoesOn (r : Nat) = true := by
        cases hx : GoesOn (r : Nat)
        · rw [hx] at hg; simp at hg
        · rfl
      refine ⟨r :: qs, ss, by rw [h1]; rfl, by rw [h2, E_cons, List.length_append], fun q hq => ?_, fun hf q hq => ?_⟩
      · rcases List.mem_cons.1 hq with rfl | hq
        · exact hgo
        · exact h3 q hq
      · simp at hq
        subst hq
        cases hx : Begins (r : Nat)
        · rw [hx, hf] at hg; simp at hg
        · rfl

theorem name_again : ∀ (qs : List Nat) (f : Nat) (first : Bool) (x : List UInt8), qs.length < f → (∀ r ∈ qs, Utf.Char (r : Nat) = true) → (∀ q ∈ qs, GoesOn (q : Nat) = true) → (first = true → ∀ q, qs.head? = some q → Begins (q : Nat) = true) → nameF f first (E qs ++ 32 :: x) = (E qs).length
  | qs, 0, first, x, h, _, _, _ => absurd h (by omega)
  | [], f + 1, first, x, _, _, _, _ => by
    have := nameF_E f first (v := 32) (by decide) x
    have h2 : GoesOn ((32 : Nat) : Int) = false := by decide
    rw [h2, encB_ascii (by omega)] at this
    show nameF (f + 1) first (32 :: x) = 0
    simpa using this
  | q :: qs, f + 1, first, x, h, hc, hg, hb => by
    have h1 := hg q (List.mem_cons_self ..)
    rw [E_cons, List.append_assoc, nameF_E f first (hc q (List.mem_cons_self ..)), name_again qs f false x (by simp at h; omega) (fun y hy => hc y (List.mem_cons_of_mem _ hy)) (fun y hy => hg y (List.mem_cons_of_mem _ hy)) (fun h => (by cases h)), List.length_append, if_neg]
    rw [h1]
    cases hf : first
    · simp
    · rw [hb hf q rfl]
      simp

/-- A name that stands in a text. -/
theorem nameL_V {r : List UInt8} (h : V r) : V (r.take (nameL r)) ∧ V (r.drop (nameL r)) ∧ ∀ x, nameL (r.take (nameL r) ++ 32 :: x) = nameL r := by
  obtain ⟨rs, hr, rfl⟩ := h
  have hge := E_ge hr
  obtain ⟨qs, ss, h1, h2, h3, h4⟩ := name_split rs ((E rs).length + 1) true (by omega) hr
  have h2' : nameL (E rs) = (E qs).length := h2
  subst h1
  have hq : ∀ r ∈ qs, Utf.Char (r : Nat) = true := fun r h => hr r (List.mem_append_left _ h)
  have hs : ∀ r ∈ ss, Utf.Char (r : Nat) = true := fun r h => hr r (List.mem_append_right _ h)
  rw [h2', E_append, List.take_append_of_le_length (Nat.le_refl _), List.take_length, List.drop_append_of_le_length (Nat.le_refl _), List.drop_length, List.nil_append]
  refine ⟨⟨qs, hq, rfl⟩, ⟨ss, hs, rfl⟩, fun x => ?_⟩
  refine name_again qs _ true x ?_ hq h3 h4
  have := E_ge hq
  rw [List.length_append]
  omega

theorem nameL_zero {c : UInt8} (t : List UInt8) (h : c.toNat < 128) (hc : Utf.Char (c.toNat : Nat) = true) (hb : Begins (c.toNat : Nat) = false) : nameL (c :: t) = 0 := by
  have := nameF_E (t.length + 1) true (v := c.toNat) hc t
  rw [encB_byte h, hb] at this
  unfold nameL
  simpa using this

/-! ### Numbers -/

theorem takeWhile_all (p : UInt8 → Bool) (l : List UInt8) : ∀ c ∈ l.takeWhile p, p c = true := by
  induction l with
  | nil => intro c h; cases h
  | cons b l ih =>
    intro c h
    rw [List.takeWhile_cons] at h
    split at h
    · rcases List.mem_cons.1 h with rfl | h
      · assumption
      · exact ih c h
    · cases h
theorem takeWhile_take (p : UInt8 → Bool) (l : List UInt8) : l.take (l.takeWhile p).length = l.takeWhile p := by
  induction l with
  | nil => rfl
  | cons b l ih =>
    rw [List.takeWhile_cons]
    split
    · rw [List.length_cons, List.take_succ_cons, ih]
    · rfl
theorem takeWhile_app {p : UInt8 → Bool} {d y : List UInt8} (hd : ∀ c ∈ d, p c = true) (hy : ∀ c, y.head? = some c → p c = false) : (d ++ y).takeWhile p = d := by
  induction d with
  | nil =>
    cases y with
    | nil => rfl
    | cons c y =>
      rw [List.nil_append, List.takeWhile_cons, hy c rfl]
      rfl
  | cons c d ih =>
    rw [List.cons_append, List.takeWhile_cons, hd c (List.mem_cons_self ..), if_pos rfl, ih fun x hx => hd x (List.mem_cons_of_mem _ hx)]

theorem digits_app {d y : List UInt8} (hd : ∀ c ∈ d, dig c = true) (hy : ∀ c, y.head? = some c → dig c = false) : digits (d ++ y) = d.length := by
  unfold digits
  rw [takeWhile_app hd hy]

theorem number_again {r : List UInt8} {n : Nat} (h : number r = some n) (x : List UInt8) : number (r.take n ++ 32 :: x) = some n ∧ ∀ c ∈ r.take n, c = 46 ∨ dig c = true := by
  have hD : ∀ c ∈ r.takeWhile dig, dig c = true := takeWhile_all dig r
  have hdl : r.take (digits r) = r.takeWhile dig := takeWhile_take dig r
  have d0 : ∀ c, (32 :: x : List UInt8).head? = some c → dig c = false := fun c h => by simp at h; subst h; decide
  unfold number at h
  split at h
  · rename_i hg
    split at h
    · cases h
    · rename_i hne
      injection h with h
      have hlt := (List.getElem?_eq_some_iff.1 hg).1
      have hdr : r.drop (digits r) = 46 :: r.drop (digits r + 1) := by
        rw [List.drop_eq_getElem_cons hlt]
        rw [List.getElem?_eq_getElem hlt] at hg
        injection hg with hg
        rw [hg]
      have hr : r = r.takeWhile dig ++ 46 :: r.drop (digits r + 1) := by
        rw [← hdr, ← hdl, List.take_append_drop]
      have hP : ∀ c ∈ (r.drop (digits r + 1)).takeWhile dig, dig c = true := takeWhile_all dig _
      have hpl : (r.drop (digits r + 1)).take (digits (r.drop (digits r + 1))) = (r.drop (digits r + 1)).takeWhile dig := takeWhile_take dig _
      have hm : (r.takeWhile dig).length = digits r := rfl
      have hp : ((r.drop (digits r + 1)).takeWhile dig).length = digits (r.drop (digits r + 1)) := rfl
      have ht : r.take n = r.takeWhile dig ++ 46 :: (r.drop (digits r + 1)).takeWhile dig := by
        rw [← h, List.take_add, hdl, hdr, Nat.add_comm 1, List.take_succ_cons, hpl]
      rw [ht]
      refine ⟨?_, fun c hc => ?_⟩
      · generalize r.takeWhile dig = D at *
        generalize r.drop (digits r + 1) = r2 at *
        generalize r2.takeWhile dig = Pl at *
        have e1 : digits ((D ++ 46 :: Pl) ++ 32 :: x) = D.length := by
          rw [List.append_assoc]
          exact digits_app hD fun c h => (by simp at h; subst h; decide)
        have e2 : (((D ++ 46 :: Pl) ++ 32 :: x).drop (D.length + 1)) = Pl ++ 32 :: x := by
          rw [List.append_assoc, ← List.drop_drop, List.drop_append_of_le_length (Nat.le_refl _), List.drop_length]
          rfl
        have e3 : digits (Pl ++ 32 :: x) = Pl.length := digits_app hP d0
        have e4 : ((D ++ 46 :: Pl) ++ 32 :: x)[D.length]? = some 46 := by simp
        unfold number
        rw [e1, e2, e3, e4, if_pos rfl, if_neg (by omega)]
        congr 1
        omega
      · rcases List.mem_append.1 hc with hc | hc
        · exact .inr (hD c hc)
        · rcases List.mem_cons.1 hc with rfl | hc
          · exact .inl rfl
          · exact .inr (hP c hc)
  · split at h
    · cases h
    · rename_i hne
      injection h with h
      rw [← h, hdl]
      refine ⟨?_, fun c hc => .inr (hD c hc)⟩
      have hm : (r.takeWhile dig).length = digits r := rfl
      generalize r.takeWhile dig = D at *
      have e1 : digits (D ++ 32 :: x) = D.length := digits_app hD d0
      have e4 : (D ++ 32 :: x)[D.length]? = some 32 := by simp
      unfold number
      rw [e1, e4, if_neg (by decide), if_neg (by omega), hm]
end Go.Proofs.YtcecmbbhjaeodaaGreatDoor.Qx
end
