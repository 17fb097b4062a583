/- Runes' bytes one behind the other: the plain laws, first part. -/
import Derived.Test.YthiikldjngamaaaDoorUtfRunes
namespace Go.Proofs.YthiikldjngamaaaDoor.UtfW
open Go.RowKit

/-- The bytes of runes one behind the other. -/
def E (rs : List Nat) : List UInt8 := (rs.map fun r => encB (r : Nat)).flatten

theorem E_cons (r : Nat) (rs : List Nat) : E (r :: rs) = encB (r : Nat) ++ E rs := rfl
theorem E_append (a b : List Nat) : E (a ++ b) = E a ++ E b := by simp [E]
theorem E_one (r : Nat) : E [r] = encB (r : Nat) := by simp [E]

theorem isRune_of_char {r : Int} (h : Utf.Char r = true) : isRune r = true := by
  unfold Utf.Char at h
  unfold isRune
  rw [decide_eq_true_eq] at *
  omega

theorem bt_drop {l t : List UInt8} {k : Nat} (h : l.drop k = t) (i : Nat) : bt l (k + i) = (t[i]?.getD 0).toNat := by
  rw [← h, List.getElem?_drop]
  rfl

theorem enc_cases {v : Nat} (h : isRune (v : Nat) = true) :
    (v < 128 ∧ Utf.enc v = [v]) ∨ (128 ≤ v ∧ v < 2048 ∧ Utf.enc v = [192 + v / 64, 128 + v % 64]) ∨
    (2048 ≤ v ∧ v < 65536 ∧ ¬ (55296 ≤ v ∧ v ≤ 57343) ∧ Utf.enc v = [224 + v / 4096, 128 + v / 64 % 64, 128 + v % 64]) ∨
    (65536 ≤ v ∧ v ≤ 1114111 ∧ Utf.enc v = [240 + v / 262144, 128 + v / 4096 % 64, 128 + v / 64 % 64, 128 + v % 64]) := by
  simp only [isRune, decide_eq_true_eq] at h
  rcases (show v < 128 ∨ (128 ≤ v ∧ v < 2048) ∨ (2048 ≤ v ∧ v < 65536) ∨ 65536 ≤ v from by omega) with h1 | h1 | h1 | h1
  · exact .inl ⟨h1, (Utf.enc1 _ _).2 ⟨h1, rfl⟩⟩
  · exact .inr (.inl ⟨h1.1, h1.2, (Utf.enc2 _ _ _).2 ⟨h1.1, h1.2, rfl, rfl⟩⟩)
  · exact .inr (.inr (.inl ⟨h1.1, h1.2, by omega, (Utf.enc3 _ _ _ _).2 ⟨h1.1, h1.2, by omega, rfl, rfl, rfl⟩⟩))
  · exact .inr (.inr (.inr ⟨h1, by omega, (Utf.enc4 _ _ _ _ _).2 ⟨h1, by omega, rfl, rfl, rfl, rfl⟩⟩))

theorem encB_of {v : Nat} {ns : List Nat} (h : Utf.enc v = ns) : encB (v : Nat) = ns.map UInt8.ofNat := by
  unfold encB
  rw [if_neg (by omega), Int.toNat_natCast, h]

set_option maxRecDepth 100000 in
/-- The decoder's step at a rune's own bytes. -/
theorem dec_enc {v : Nat} (hv : isRune (v : Nat) = true) {l rest : List UInt8} {k : Nat} (h : l.drop k = encB (v : Nat) ++ rest) : dec l k = (v, (encB (v : Nat)).length) := by
  have hlen : l.length - k = (encB (v : Nat)).length + rest.length := by rw [← List.length_drop, h, List.length_append]
  have h0 := bt_drop h 0
  have h1 := bt_drop h 1
  have h2 := bt_drop h 2
  have h3 := bt_drop h 3
  rw [Nat.add_zero] at h0
  unfold dec
  rw [hlen]
  rcases enc_cases hv with ⟨a, e⟩ | ⟨a, b, e⟩ | ⟨a, b, c, e⟩ | ⟨a, b, e⟩
  · rw [encB_of e] at h0 ⊢
    simp at h0
    rw [h0]
    simp only [List.map_cons, List.map_nil, List.length_cons, List.length_nil]
    unfold Lib.decodeN
    rw [if_pos (by omega)]
    refine congr (congrArg Prod.mk ?_) rfl
    omega
  · rw [encB_of e] at h0 h1 ⊢
    simp at h0 h1
    rw [h0, h1]
    simp only [List.map_cons, List.map_nil, List.length_cons, List.length_nil]
    unfold Lib.decodeN
    rw [if_neg (by omega), if_pos ⟨by omega, by omega, by omega⟩, if_pos (by omega)]
    refine congr (congrArg Prod.mk ?_) rfl
    omega
  · rw [encB_of e] at h0 h1 h2 ⊢
    simp at h0 h1 h2
    rw [h0, h1, h2]
    simp only [List.map_cons, List.map_nil, List.length_cons, List.length_nil]
    unfold Lib.decodeN
    rw [if_neg (by omega), if_neg (by omega), if_pos ⟨by omega, ⟨by omega, by omega⟩, by omega, by omega⟩, if_pos (by omega)]
    refine congr (congrArg Prod.mk ?_) rfl
    omega
  · rw [encB_of e] at h0 h1 h2 h3 ⊢
    simp at h0 h1 h2 h3
    rw [h0, h1, h2, h3]
    simp only [List.map_cons, List.map_nil, List.length_cons, List.length_nil]
    unfold Lib.decodeN
    rw [if_neg (by omega), if_neg (by omega), if_neg (by omega), if_pos ⟨by omega, ⟨by omega, by omega⟩, ⟨by omega, by omega⟩, by omega, by omega⟩, if_pos (by omega)]
    refine congr (congrArg Prod.mk ?_) rfl
    omega

theorem encB_pos {v : Nat} (hv : isRune (v : Nat) = true) : 1 ≤ (encB (v : Nat)).length ∧ (encB (v : Nat)).length ≤ 4 ∧ (v = 65533 → (encB (v : Nat)).length = 3) := by
  rcases enc_cases hv with ⟨a, e⟩ | ⟨a, b, e⟩ | ⟨a, b, c, e⟩ | ⟨a, b, e⟩ <;> rw [encB_of e] <;> simp <;> omega

/-- Next at a rune's own bytes. -/
theorem nx_enc {v : Nat} (hv : isRune (v : Nat) = true) {l rest : List UInt8} {k : Nat} (h : l.drop k = encB (v : Nat) ++ rest) :
    nx l k = if Utf.Char (v : Nat) = true then (v, (encB (v : Nat)).length) else (0, 0) := by
  have hp := encB_pos hv
  have hk : k < l.length := by
    have := congrArg List.length h
    rw [List.length_drop, List.length_append] at this
    omega
  rw [nx_dec hk, dec_enc hv h]
  cases hc : Utf.Char (v : Nat)
  · rw [if_pos (Or.inr rfl), if_neg (by simp)]
  · rw [if_neg (by rintro (⟨h1, h2⟩ | h1); (have := hp.2.2 h1; simp only at h2; omega); (cases h1)), if_pos rfl]

theorem drop_step {l a b : List UInt8} {k : Nat} (h : l.drop k = a ++ b) : l.drop (k + a.length) = b := by
  rw [← List.drop_drop, h, List.drop_append_of_le_length (Nat.le_refl _)]
  simp

/-- Runes that XML has are told as these runes. -/
theorem runesW_E (l : List UInt8) : ∀ (rs : List Nat) (k : Nat), (∀ r ∈ rs, Utf.Char (r : Nat) = true) → l.drop k = E rs → runesW l k = some rs := by
  intro rs
  induction rs with
  | nil =>
    intro k _ h
    have := congrArg List.length h
    rw [List.length_drop] at this
    simp [E] at this
    exact runesW_end (by omega)
  | cons r rs ih =>
    intro k hc h
    have hr := hc r (List.mem_cons_self ..)
    have hv := isRune_of_char hr
    have hp := encB_pos hv
    rw [E_cons] at h
    have hn := nx_enc hv h
    rw [if_pos hr] at hn
    have hk : k < l.length := by
      have := congrArg List.length h
      rw [List.length_drop, List.length_append] at this
      omega
    rw [runesW_on hk (by rw [hn]; simp only; omega), hn]
    simp only
    rw [ih _ (fun x hx => hc x (List.mem_cons_of_mem _ hx)) (drop_step h)]
    rfl

/-- With a rune among them that XML hasn't, they are none. -/
theorem runesW_not (l rest : List UInt8) (v : Nat) (hv : isRune (v : Nat) = true) (hn : Utf.Char (v : Nat) = false) : ∀ (rs : List Nat) (k : Nat), (∀ r ∈ rs, Utf.Char (r : Nat) = true) → l.drop k = E rs ++ (encB (v : Nat) ++ rest) → runesW l k = none := by
  intro rs
  induction rs with
  | nil =>
    intro k _ h
    have hp := encB_pos hv
    have hx := nx_enc hv h
    rw [if_neg (by rw [hn]; simp)] at hx
    have hk : k < l.length := by
      have := congrArg List.length h
      simp [E] at this
      omega
    exact runesW_stop hk (by rw [hx])
  | cons r rs ih =>
    intro k hc h
    have hr := hc r (List.mem_cons_self ..)
    have hv' := isRune_of_char hr
    have hp := encB_pos hv'
    rw [E_cons, List.append_assoc] at h
    have hx := nx_enc hv' h
    rw [if_pos hr] at hx
    have hk : k < l.length := by
      have := congrArg List.length h
      rw [List.length_drop, List.length_append] at this
      omega
    rw [runesW_on hk (by rw [hx]; simp only; omega), hx]
    simp only
    rw [ih _ (fun x hx => hc x (List.mem_cons_of_mem _ hx)) (drop_step h)]
    rfl

theorem nx_own {l : List UInt8} {k : Nat} (h : (nx l k).2 ≠ 0) : k + (nx l k).2 ≤ l.length ∧ 1 ≤ (nx l k).2 ∧ (nx l k).2 ≤ 4 ∧ own (nx l k).2 l k = true ∧ (nx l k).1 = vl (nx l k).2 l k := by
  by_cases hk : k < l.length
  · have e : nx l k = Utf.ref (l.length - k) (bt l k) (bt l (k + 1)) (bt l (k + 2)) (bt l (k + 3)) := by
      unfold nx
      rw [if_pos hk, Utf.ref_nxt _ _ _ _ _ (by omega)]
    rw [e] at h ⊢
    unfold Utf.ref at h ⊢
    split at h
    · rename_i h1
      rw [if_pos h1]
      exact ⟨by simp only; omega, by simp only; omega, by simp only; omega, h1.2, rfl⟩
    rename_i h1
    rw [if_neg h1]
    split at h
    · rename_i h2
      rw [if_pos h2]
      exact ⟨by simp only; omega, by simp only; omega, by simp only; omega, h2.2, rfl⟩
    rename_i h2
    rw [if_neg h2]
    split at h
    · rename_i h3
      rw [if_pos h3]
      exact ⟨by simp only; omega, by simp only; omega, by simp only; omega, h3.2, rfl⟩
    rename_i h3
    rw [if_neg h3]
    split at h
    · rename_i h4
      rw [if_pos h4]
      exact ⟨by simp only; omega, by simp only; omega, by simp only; omega, h4.2, rfl⟩
    · exact absurd rfl h
  · exfalso
    apply h
    unfold nx
    rw [if_neg hk]

/-- A text of runes is these runes' bytes. -/
theorem runesW_sound (l : List UInt8) : ∀ n k rs, l.length - k ≤ n → k ≤ l.length → runesW l k = some rs → l.drop k = E rs ∧ ∀ r ∈ rs, Utf.Char (r : Nat) = true := by
  intro n
  induction n with
  | zero =>
    intro k rs hn hk h
    rw [runesW_end (by omega)] at h
    injection h with h
    subst h
    refine ⟨?_, fun r hr => by cases hr⟩
    rw [List.drop_eq_nil_of_le (by omega)]
    rfl
  | succ n ih =>
    intro k rs hn hk h
    by_cases hlt : k < l.length
    · by_cases h0 : (nx l k).2 = 0
      · rw [runesW_stop hlt h0] at h
        cases h
      · obtain ⟨o1, o2, o3, o4, o5⟩ := nx_own h0
        rw [runesW_on hlt h0] at h
        obtain ⟨rs', h3, h4⟩ := Option.map_eq_some_iff.1 h
        subst h4
        obtain ⟨i1, i2⟩ := ih _ rs' (by omega) o1 h3
        rw [own_iff o2 o3 o1, Bool.and_eq_true, decide_eq_true_eq, ← o5] at o4
        refine ⟨?_, fun r hr => ?_⟩
        · rw [E_cons, o4.1, ← i1, ← List.drop_drop, List.take_append_drop]
        · rcases List.mem_cons.1 hr with rfl | hr
          · exact o4.2
          · exact i2 r hr
    · rw [runesW_end (by omega)] at h
      injection h with h
      subst h
      refine ⟨?_, fun r hr => by cases hr⟩
      rw [List.drop_eq_nil_of_le (by omega)]
      rfl

theorem bad_of_runes (l : List UInt8) : ∀ n k rs, l.length - k ≤ n → runesW l k = some rs → badW l k = -1 := by
  intro n
  induction n with
  | zero =>
    intro k rs hn _
    exact badW_end (by omega)
  | succ n ih =>
    intro k rs hn h
    by_cases hlt : k < l.length
    · by_cases h0 : (nx l k).2 = 0
      · rw [runesW_stop hlt h0] at h
        cases h
      · rw [runesW_on hlt h0] at h
        obtain ⟨rs', h3, h4⟩ := Option.map_eq_some_iff.1 h
        rw [badW_on hlt h0]
        exact ih _ rs' (by omega) h3
    · exact badW_end (by omega)

/-! ### The sides of a name -/

theorem goesOn_of_begins {r : Int} (h : Begins r = true) : GoesOn r = true := by
  unfold GoesOn
  rw [h]
  simp
end Go.Proofs.YthiikldjngamaaaDoor.UtfW
