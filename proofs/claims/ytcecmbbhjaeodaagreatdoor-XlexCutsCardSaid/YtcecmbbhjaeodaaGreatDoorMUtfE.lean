/- Runes' bytes one behind the other: the plain laws, first part. -/
import Derived.Test.YtcecmbbhjaeodaaGreatDoorMUtfBad
import Derived.Lib.ValidAsc
import Derived.Lib.ConvBytes
section
namespace Go.Proofs.YtcecmbbhjaeodaaGreatDoor.UtfW
open Go.RowKit

/-- The decoder's step at a place. -/
def dec (l : List UInt8) (k : Nat) : Nat × Nat := Lib.decodeN (l.length - k) (bt l k) (bt l (k + 1)) (bt l (k + 2)) (bt l (k + 3))

theorem dec_pos (l : List UInt8) (k : Nat) : 1 ≤ (dec l k).2 := Lib.decodeN_ge1 _ _ _ _ _

theorem str_get (s : ByteArray) (i : Nat) : (s.get! i).toNat = bt s.data.toList i := by
  have h := get_bt s.data.toList 0 i
  rw [List.drop_zero, Nat.zero_add] at h
  rw [← h]
  rfl

theorem decode_str (s : ByteArray) (pos : Nat) : Utf8.decode s pos = dec s.data.toList pos := by
  rw [Lib.decode_at, str_get, str_get, str_get, str_get]
  rfl

theorem nx_dec {l : List UInt8} {k : Nat} (h : k < l.length) : nx l k = if ((dec l k).1 = 65533 ∧ (dec l k).2 < 2) ∨ Utf.Char (dec l k).1 = false then (0, 0) else dec l k := by
  unfold nx
  rw [if_pos h]
  rfl

theorem decodeL_drop {l : List UInt8} {k : Nat} : Lib.decodeL (l.drop k) = dec l k := by
  show Utf8.decode (strOf (l.drop k)) 0 = _
  rw [Lib.decode_at, get_bt, get_bt, get_bt, get_bt, strOf_size, List.length_drop]
  rfl

/-- Whether each step from a place on is valid. -/
def validW (l : List UInt8) (k : Nat) : Bool :=
  if h : k < l.length then (if (dec l k).1 = 65533 ∧ (dec l k).2 = 1 then false else validW l (k + (dec l k).2)) else true
termination_by l.length - k
decreasing_by have := dec_pos l k; omega

theorem validGo_eq (l : List UInt8) : ∀ n k, l.length - k ≤ n → Lib.validGoD n (l.drop k) = validW l k := by
  intro n
  induction n with
  | zero =>
    intro k hk
    rw [validW, dif_neg (by omega)]
    rfl
  | succ n ih =>
    intro k hk
    rw [validW, Lib.validGoD]
    by_cases h : k < l.length
    · have hp := dec_pos l k
      rw [dif_pos h, if_neg (by intro h2; have := congrArg List.length h2; simp at this; omega), decodeL_drop]
      split
      · rfl
      · rw [List.drop_drop]
        exact ih _ (by omega)
    · rw [dif_neg h, if_pos (List.drop_eq_nil_of_le (by omega))]

theorem validD_eq (l : List UInt8) : Lib.validD l = validW l 0 := by
  rw [← validGo_eq l l.length 0 (by omega)]
  rfl

/-- Whether each rune from a place on may be where it is in a name. -/
def nameW (l : List UInt8) (k : Nat) : Bool :=
  if h : k < l.length then (if (k = 0 ∧ Begins (dec l k).1 = false) ∨ GoesOn (dec l k).1 = false then false else nameW l (k + (dec l k).2)) else true
termination_by l.length - k
decreasing_by have := dec_pos l k; omega

/-- The code's Name. -/
def nameC (l : List UInt8) : Bool := validW l 0 && (nameW l 0 && decide (l ≠ []))

/-- A text's runes from a place on, by Next. -/
def runesW (l : List UInt8) (k : Nat) : Option (List Nat) :=
  if h : k < l.length then (if h2 : (nx l k).2 = 0 then none else (runesW l (k + (nx l k).2)).map ((nx l k).1 :: ·)) else some []
termination_by l.length - k

theorem runesW_end {l : List UInt8} {k : Nat} (h : l.length ≤ k) : runesW l k = some [] := by
  rw [runesW, dif_neg (by omega)]
theorem runesW_stop {l : List UInt8} {k : Nat} (h : k < l.length) (h2 : (nx l k).2 = 0) : runesW l k = none := by
  rw [runesW, dif_pos h, dif_pos h2]
theorem runesW_on {l : List UInt8} {k : Nat} (h : k < l.length) (h2 : (nx l k).2 ≠ 0) : runesW l k = (runesW l (k + (nx l k).2)).map ((nx l k).1 :: ·) := by
  rw [runesW, dif_pos h, dif_neg h2]

/-- The document's Name. -/
def nameR (l : List UInt8) : Bool :=
  match runesW l 0 with
  | none => false
  | some [] => false
  | some (r :: rs) => Begins r && (GoesOn r && rs.all fun x => GoesOn x)

theorem char_of_goesOn {r : Int} (h : GoesOn r = true) : Utf.Char r = true := by
  unfold GoesOn Begins at h
  unfold Utf.Char
  rw [decide_eq_true_eq] at *
  simp [inb] at h
  omega

theorem name_step (l : List UInt8) : ∀ n k, 0 < k → l.length - k ≤ n → (validW l k && nameW l k) = match runesW l k with | none => false | some rs => rs.all fun x => GoesOn x := by
  intro n
  induction n with
  | zero =>
    intro k hk hn
    rw [validW, dif_neg (by omega), nameW, dif_neg (by omega), runesW_end (by omega)]
    rfl
  | succ n ih =>
    intro k hk hn
    by_cases h : k < l.length
    · have hnx := nx_dec h
      have hp := dec_pos l k
      rw [validW, dif_pos h, nameW, dif_pos h]
      by_cases h1 : (dec l k).1 = 65533 ∧ (dec l k).2 = 1
      · rw [if_pos h1]
        rw [if_pos (Or.inl ⟨h1.1, by omega⟩)] at hnx
        rw [runesW_stop h (by rw [hnx])]
        rfl
      · rw [if_neg h1]
        have h1' : ¬ ((dec l k).1 = 65533 ∧ (dec l k).2 < 2) := fun h2 => h1 ⟨h2.1, by omega⟩
        cases hg : GoesOn (dec l k).1
        · rw [if_pos (Or.inr rfl), Bool.and_false]
          by_cases h2 : Utf.Char (dec l k).1 = false
          · rw [if_pos (Or.inr h2)] at hnx
            rw [runesW_stop h (by rw [hnx])]
          · rw [if_neg (by rintro (h3 | h3); exact h1' h3; exact h2 h3)] at hnx
            rw [runesW_on h (by rw [hnx]; omega), hnx]
            cases runesW l (k + (dec l k).2) with
            | none => rfl
            | some rs => simp [hg]
        · have hc := char_of_goesOn hg
          rw [if_neg (by rintro (⟨h3, _⟩ | h3); omega; cases h3)]
          rw [if_neg (by rintro (h3 | h3); exact h1' h3; rw [hc] at h3; cases h3)] at hnx
          rw [runesW_on h (by rw [hnx]; omega), hnx, ih _ (by omega) (by omega)]
          cases runesW l (k + (dec l k).2) with
          | none => rfl
          | some rs => simp [hg]
    · rw [validW, dif_neg h, nameW, dif_neg h, runesW_end (by omega)]
      rfl

/-- THE LAW OF Name. -/
theorem name_eq (l : List UInt8) : nameC l = nameR l := by
  unfold nameC nameR
  by_cases h : 0 < l.length
  · have hne : l ≠ [] := by intro h2; rw [h2] at h; simp at h
    rw [show decide (l ≠ []) = true from decide_eq_true hne, Bool.and_true]
    have hnx := nx_dec h
    have hp := dec_pos l 0
    rw [validW, dif_pos h, nameW, dif_pos h]
    by_cases h1 : (dec l 0).1 = 65533 ∧ (dec l 0).2 = 1
    · rw [if_pos h1]
      rw [if_pos (Or.inl ⟨h1.1, by omega⟩)] at hnx
      rw [runesW_stop h (by rw [hnx])]
      rfl
    · rw [if_neg h1]
      have h1' : ¬ ((dec l 0).1 = 65533 ∧ (dec l 0).2 < 2) := fun h2 => h1 ⟨h2.1, by omega⟩
      cases hg : GoesOn (dec l 0).1
      · rw [if_pos (Or.inr rfl), Bool.and_false]
        by_cases h2 : Utf.Char (dec l 0).1 = false
        · rw [if_pos (Or.inr h2)] at hnx
          rw [runesW_stop h (by rw [hnx])]
        · rw [if_neg (by rintro (h3 | h3); exact h1' h3; exact h2 h3)] at hnx
          rw [runesW_on h (by rw [hnx]; omega), hnx]
          cases runesW l (0 + (dec l 0).2) with
          | none => rfl
          | some rs => simp [hg]
      · have hc := char_of_goesOn hg
        rw [if_neg (by rintro (h3 | h3); exact h1' h3; rw [hc] at h3; cases h3)] at hnx
        cases hb : Begins (dec l 0).1
        · rw [if_pos (Or.inl ⟨rfl, rfl⟩), Bool.and_false, runesW_on h (by rw [hnx]; omega), hnx]
          cases runesW l (0 + (dec l 0).2) with
          | none => rfl
          | some rs => simp [hb]
        · rw [if_neg (by rintro (⟨_, h3⟩ | h3) <;> cases h3), runesW_on h (by rw [hnx]; omega), hnx, name_step l _ _ (by omega) (Nat.le_refl _)]
          cases runesW l (0 + (dec l 0).2) with
          | none => rfl
          | some rs => simp [hg, hb]
  · have hne : l = [] := List.eq_nil_of_length_eq_zero (by omega)
    subst hne
    rw [runesW_end (by simp)]
    simp
end Go.Proofs.YtcecmbbhjaeodaaGreatDoor.UtfW
end

section
namespace Go.Proofs.YtcecmbbhjaeodaaGreatDoor.UtfW
open Go.RowKit

/-- The bytes of runes one behind the other. -/
def E (rs : List Nat) : List UInt8 := (rs.map fun r => encB (r : Nat)).flatten

theorem E_cons (r : Nat) (rs : List Nat) : E (r :: rs) = encB (r : Nat) ++ E rs := rfl
theorem E_append (a b : List Nat) : E (a ++ b) = E a ++ E b := by simp [E]
theorem E_one (r : Nat) : E [r] = encB (r : Nat) := by simp [E]

theorem isRune_of_char {r : Int} (h : Utf.Char r = true) : isRune r = true := by
  unfold Utf.Char at h
  unfold isRune
  rw [decide_eq_true_eq] at *
  omega

theorem bt_drop {l t : List UInt8} {k : Nat} (h : l.drop k = t) (i : Nat) : bt l (k + i) = (t[i]?.getD 0).toNat := by
  rw [← h, List.getElem?_drop]
  rfl

theorem enc_cases {v : Nat} (h : isRune (v : Nat) = true) :
    (v < 128 ∧ Utf.enc v = [v]) ∨ (128 ≤ v ∧ v < 2048 ∧ Utf.enc v = [192 + v / 64, 128 + v % 64]) ∨
    (2048 ≤ v ∧ v < 65536 ∧ ¬ (55296 ≤ v ∧ v ≤ 57343) ∧ Utf.enc v = [224 + v / 4096, 128 + v / 64 % 64, 128 + v % 64]) ∨
    (65536 ≤ v ∧ v ≤ 1114111 ∧ Utf.enc v = [240 + v / 262144, 128 + v / 4096 % 64, 128 + v / 64 % 64, 128 + v % 64]) := by
  simp only [isRune, decide_eq_true_eq] at h
  rcases (show v < 128 ∨ (128 ≤ v ∧ v < 2048) ∨ (2048 ≤ v ∧ v < 65536) ∨ 65536 ≤ v from by omega) with h1 | h1 | h1 | h1
  · exact .inl ⟨h1, (Utf.enc1 _ _).2 ⟨h1, rfl⟩⟩
  · exact .inr (.inl ⟨h1.1, h1.2, (Utf.enc2 _ _ _).2 ⟨h1.1, h1.2, rfl, rfl⟩⟩)
  · exact .inr (.inr (.inl ⟨h1.1, h1.2, by omega, (Utf.enc3 _ _ _ _).2 ⟨h1.1, h1.2, by omega, rfl, rfl, rfl⟩⟩))
  · exact .inr (.inr (.inr ⟨h1, by omega, (Utf.enc4 _ _ _ _ _).2 ⟨h1, by omega, rfl, rfl, rfl, rfl⟩⟩))

theorem encB_of {v : Nat} {ns : List Nat} (h : Utf.enc v = ns) : encB (v : Nat) = ns.map UInt8.ofNat := by
  unfold encB
  rw [if_neg (by omega), Int.toNat_natCast, h]

set_option maxRecDepth 100000 in
/-- The decoder's step at a rune's own bytes. -/
theorem dec_enc {v : Nat} (hv : isRune (v : Nat) = true) {l rest : List UInt8} {k : Nat} (h : l.drop k = encB (v : Nat) ++ rest) : dec l k = (v, (encB (v : Nat)).length) := by
  have hlen : l.length - k = (encB (v : Nat)).length + rest.length := by rw [← List.length_drop, h, List.length_append]
  have h0 := bt_drop h 0
  have h1 := bt_drop h 1
  have h2 := bt_drop h 2
  have h3 := bt_drop h 3
  rw [Nat.add_zero] at h0
  unfold dec
  rw [hlen]
  rcases enc_cases hv with ⟨a, e⟩ | ⟨a, b, e⟩ | ⟨a, b, c, e⟩ | ⟨a, b, e⟩
  · rw [encB_of e] at h0 ⊢
    simp at h0
    rw [h0]
    simp only [List.map_cons, List.map_nil, List.length_cons, List.length_nil]
    unfold Lib.decodeN
    rw [if_pos (by omega)]
    refine congr (congrArg Prod.mk ?_) rfl
    omega
  · rw [encB_of e] at h0 h1 ⊢
    simp at h0 h1
    rw [h0, h1]
    simp only [List.map_cons, List.map_nil, List.length_cons, List.length_nil]
    unfold Lib.decodeN
    rw [if_neg (by omega), if_pos ⟨by omega, by omega, by omega⟩, if_pos (by omega)]
    refine congr (congrArg Prod.mk ?_) rfl
    omega
  · rw [encB_of e] at h0 h1 h2 ⊢
    simp at h0 h1 h2
    rw [h0, h1, h2]
    simp only [List.map_cons, List.map_nil, List.length_cons, List.length_nil]
    unfold Lib.decodeN
    rw [if_neg (by omega), if_neg (by omega), if_pos ⟨by omega, ⟨by omega, by omega⟩, by omega, by omega⟩, if_pos (by omega)]
    refine congr (congrArg Prod.mk ?_) rfl
    omega
  · rw [encB_of e] at h0 h1 h2 h3 ⊢
    simp at h0 h1 h2 h3
    rw [h0, h1, h2, h3]
    simp only [List.map_cons, List.map_nil, List.length_cons, List.length_nil]
    unfold Lib.decodeN
    rw [if_neg (by omega), if_neg (by omega), if_neg (by omega), if_pos ⟨by omega, ⟨by omega, by omega⟩, ⟨by omega, by omega⟩, by omega, by omega⟩, if_pos (by omega)]
    refine congr (congrArg Prod.mk ?_) rfl
    omega

theorem encB_pos {v : Nat} (hv : isRune (v : Nat) = true) : 1 ≤ (encB (v : Nat)).length ∧ (encB (v : Nat)).length ≤ 4 ∧ (v = 65533 → (encB (v : Nat)).length = 3) := by
  rcases enc_cases hv with ⟨a, e⟩ | ⟨a, b, e⟩ | ⟨a, b, c, e⟩ | ⟨a, b, e⟩ <;> rw [encB_of e] <;> simp <;> omega

/-- Next at a rune's own bytes. -/
theorem nx_enc {v : Nat} (hv : isRune (v : Nat) = true) {l rest : List UInt8} {k : Nat} (h : l.drop k = encB (v : Nat) ++ rest) :
    nx l k = if Utf.Char (v : Nat) = true then (v, (encB (v : Nat)).length) else (0, 0) := by
  have hp := encB_pos hv
  have hk : k < l.length := by
    have := congrArg List.length h
    rw [List.length_drop, List.length_append] at this
    omega
  rw [nx_dec hk, dec_enc hv h]
  cases hc : Utf.Char (v : Nat)
  · rw [if_pos (Or.inr rfl), if_neg (by simp)]
  · rw [if_neg (by rintro (⟨h1, h2⟩ | h1); (have := hp.2.2 h1; simp only at h2; omega); (cases h1)), if_pos rfl]

theorem drop_step {l a b : List UInt8} {k : Nat} (h : l.drop k = a ++ b) : l.drop (k + a.length) = b := by
  rw [← List.drop_drop, h, List.drop_append_of_le_length (Nat.le_refl _)]
  simp

/-- Runes that XML has are told as these runes. -/
theorem runesW_E (l : List UInt8) : ∀ (rs : List Nat) (k : Nat), (∀ r ∈ rs, Utf.Char (r : Nat) = true) → l.drop k = E rs → runesW l k = some rs := by
  intro rs
  induction rs with
  | nil =>
    intro k _ h
    have := congrArg List.length h
    rw [List.length_drop] at this
    simp [E] at this
    exact runesW_end (by omega)
  | cons r rs ih =>
    intro k hc h
    have hr := hc r (List.mem_cons_self ..)
    have hv := isRune_of_char hr
    have hp := encB_pos hv
    rw [E_cons] at h
    have hn := nx_enc hv h
    rw [if_pos hr] at hn
    have hk : k < l.length := by
      have := congrArg List.length h
      rw [List.length_drop, List.length_append] at this
      omega
    rw [runesW_on hk (by rw [hn]; simp only; omega), hn]
    simp only
    rw [ih _ (fun x hx => hc x (List.mem_cons_of_mem _ hx)) (drop_step h)]
    rfl

/-- With a rune among them that XML hasn't, they are none. -/
theorem runesW_not (l rest : List UInt8) (v : Nat) (hv : isRune (v : Nat) = true) (hn : Utf.Char (v : Nat) = false) : ∀ (rs : List Nat) (k : Nat), (∀ r ∈ rs, Utf.Char (r : Nat) = true) → l.drop k = E rs ++ (encB (v : Nat) ++ rest) → runesW l k = none := by
  intro rs
  induction rs with
  | nil =>
    intro k _ h
    have hp := encB_pos hv
    have hx := nx_enc hv h
    rw [if_neg (by rw [hn]; simp)] at hx
    have hk : k < l.length := by
      have := congrArg List.length h
      simp [E] at this
      omega
    exact runesW_stop hk (by rw [hx])
  | cons r rs ih =>
    intro k hc h
    have hr := hc r (List.mem_cons_self ..)
    have hv' := isRune_of_char hr
    have hp := encB_pos hv'
    rw [E_cons, List.append_assoc] at h
    have hx := nx_enc hv' h
    rw [if_pos hr] at hx
    have hk : k < l.length := by
      have := congrArg List.length h
      rw [List.length_drop, List.length_append] at this
      omega
    rw [runesW_on hk (by rw [hx]; simp only; omega), hx]
    simp only
    rw [ih _ (fun x hx => hc x (List.mem_cons_of_mem _ hx)) (drop_step h)]
    rfl

theorem nx_own {l : List UInt8} {k : Nat} (h : (nx l k).2 ≠ 0) : k + (nx l k).2 ≤ l.length ∧ 1 ≤ (nx l k).2 ∧ (nx l k).2 ≤ 4 ∧ own (nx l k).2 l k = true ∧ (nx l k).1 = vl (nx l k).2 l k := by
  by_cases hk : k < l.length
  · have e : nx l k = Utf.ref (l.length - k) (bt l k) (bt l (k + 1)) (bt l (k + 2)) (bt l (k + 3)) := by
      unfold nx
      rw [if_pos hk, Utf.ref_nxt _ _ _ _ _ (by omega)]
    rw [e] at h ⊢
    unfold Utf.ref at h ⊢
    split at h
    · rename_i h1
      rw [if_pos h1]
      exact ⟨by simp only; omega, by simp only; omega, by simp only; omega, h1.2, rfl⟩
    rename_i h1
    rw [if_neg h1]
    split at h
    · rename_i h2
      rw [if_pos h2]
      exact ⟨by simp only; omega, by simp only; omega, by simp only; omega, h2.2, rfl⟩
    rename_i h2
    rw [if_neg h2]
    split at h
    · rename_i h3
      rw [if_pos h3]
      exact ⟨by simp only; omega, by simp only; omega, by simp only; omega, h3.2, rfl⟩
    rename_i h3
    rw [if_neg h3]
    split at h
    · rename_i h4
      rw [if_pos h4]
      exact ⟨by simp only; omega, by simp only; omega, by simp only; omega, h4.2, rfl⟩
    · exact absurd rfl h
  · exfalso
    apply h
    unfold nx
    rw [if_neg hk]

/-- A text of runes is these runes' bytes. -/
theorem runesW_sound (l : List UInt8) : ∀ n k rs, l.length - k ≤ n → k ≤ l.length → runesW l k = some rs → l.drop k = E rs ∧ ∀ r ∈ rs, Utf.Char (r : Nat) = true := by
  intro n
  induction n with
  | zero =>
    intro k rs hn hk h
    rw [runesW_end (by omega)] at h
    injection h with h
    subst h
    refine ⟨?_, fun r hr => by cases hr⟩
    rw [List.drop_eq_nil_of_le (by omega)]
    rfl
  | succ n ih =>
    intro k rs hn hk h
    by_cases hlt : k < l.length
    · by_cases h0 : (nx l k).2 = 0
      · rw [runesW_stop hlt h0] at h
        cases h
      · obtain ⟨o1, o2, o3, o4, o5⟩ := nx_own h0
        rw [runesW_on hlt h0] at h
        obtain ⟨rs', h3, h4⟩ := Option.map_eq_some_iff.1 h
        subst h4
        obtain ⟨i1, i2⟩ := ih _ rs' (by omega) o1 h3
        rw [own_iff o2 o3 o1, Bool.and_eq_true, decide_eq_true_eq, ← o5] at o4
        refine ⟨?_, fun r hr => ?_⟩
        · rw [E_cons, o4.1, ← i1, ← List.drop_drop, List.take_append_drop]
        · rcases List.mem_cons.1 hr with rfl | hr
          · exact o4.2
          · exact i2 r hr
    · rw [runesW_end (by omega)] at h
      injection h with h
      subst h
      refine ⟨?_, fun r hr => by cases hr⟩
      rw [List.drop_eq_nil_of_le (by omega)]
      rfl

theorem bad_of_runes (l : List UInt8) : ∀ n k rs, l.length - k ≤ n → runesW l k = some rs → badW l k = -1 := by
  intro n
  induction n with
  | zero =>
    intro k rs hn _
    exact badW_end (by omega)
  | succ n ih =>
    intro k rs hn h
    by_cases hlt : k < l.length
    · by_cases h0 : (nx l k).2 = 0
      · rw [runesW_stop hlt h0] at h
        cases h
      · rw [runesW_on hlt h0] at h
        obtain ⟨rs', h3, h4⟩ := Option.map_eq_some_iff.1 h
        rw [badW_on hlt h0]
        exact ih _ rs' (by omega) h3
    · exact badW_end (by omega)

/-! ### The sides of a name -/

theorem goesOn_of_begins {r : Int} (h : Begins r = true) : GoesOn r = true := by
  unfold GoesOn
  rw [h]
  simp
end Go.Proofs.YtcecmbbhjaeodaaGreatDoor.UtfW
end
