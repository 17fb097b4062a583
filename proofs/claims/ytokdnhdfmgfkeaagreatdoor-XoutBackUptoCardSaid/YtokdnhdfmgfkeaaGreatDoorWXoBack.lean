/- What is written of a document that may be is parsed to it, plainly. No program stands here. -/
import Derived.Test.YtokdnhdfmgfkeaaGreatDoorWXlPlaces
import Derived.Test.YtokdnhdfmgfkeaaGreatDoorWXpLib
set_option linter.unusedVariables false
set_option linter.unusedSimpArgs false
section
namespace Go.Proofs.YtokdnhdfmgfkeaaGreatDoor.Xl
open Go.RowKit UtfW Qx
/-! ### Names -/
/-! ### Values, characters -/
/-! ### Tags -/
/-! ### All tokens -/
/-! ### What is wrong has a code -/
end Go.Proofs.YtokdnhdfmgfkeaaGreatDoor.Xl
end

section
namespace Go.Proofs.YtokdnhdfmgfkeaaGreatDoor.Xl
open Go.RowKit UtfW Qx
/-! ### Plain characters -/
/-! ### Numbers -/
theorem find_semi : ∀ {x : Tx}, 59 ∉ x -> ∀ t, find [59] (x ++ 59 :: t) = some x.length
 | [], _, t => by
  rw [List.nil_append, find, if_pos (by simp [List.isPrefixOf])];rfl
 | b :: x, h, t => by
  rw [List.mem_cons, not_or] at h;rw [List.cons_append, find, if_neg, find_semi h.2 t]
  ·rfl
  ·simp only [List.isPrefixOf, Bool.and_true, beq_iff_eq];exact h.1
theorem refR_of {x : Tx} (h : 59 ∉ x) (t : Tx) : refR (x ++ 59 :: t) = match refV x with
  | none => .bad 5 0
  | some v => .ok (encB (v : Nat)) (x.length + 2) := by
 unfold refR;rw [find_semi h t];simp only;rw [List.take_left];rfl
end Go.Proofs.YtokdnhdfmgfkeaaGreatDoor.Xl
end

section
namespace Go.Proofs.YtokdnhdfmgfkeaaGreatDoor.Xl
open Go.RowKit UtfW Qx
def bl (c : UInt8) : UInt8 := if c = 9 \/ c = 10 then 32 else c
theorem blanks_0 {c : UInt8} {t : Tx} (h : Qx.blank c = false) : blanks (c :: t) = 0 := by
 unfold blanks;rw [List.takeWhile_cons, if_neg (by rw [h]; decide)];rfl
end Go.Proofs.YtokdnhdfmgfkeaaGreatDoor.Xl
end

section
namespace Go.Proofs.YtokdnhdfmgfkeaaGreatDoor.Xo
open Go.RowKit UtfW Qx Xl Xt
/-! ### Names -/
theorem name_stop {c : UInt8} (h8 : c.toNat < 128) (hcc : Utf.Char (c.toNat : Nat) = true) (hg0 : GoesOn (c.toNat : Nat) = false) : ∀ (qs : List Nat) (f : Nat) (first : Bool) (x : Tx), qs.length < f -> (∀ r ∈ qs, Utf.Char (r : Nat) = true) -> (∀ q ∈ qs, GoesOn (q : Nat) = true) -> (first = true -> ∀ q, qs.head? = some q -> Begins (q : Nat) = true) -> nameF f first (E qs ++ c :: x) = (E qs).length
 | qs, 0, first, x, h, _, _, _ => absurd h (by omega)
 | [], f + 1, first, x, _, _, _, _ => by
  have := nameF_E f first (v := c.toNat) hcc x;rw [hg0, encB_byte h8] at this
  show nameF (f + 1) first (c :: x) = 0
  simpa using this
 | q :: qs, f + 1, first, x, h, hc, hg, hb => by
  have h1 := hg q (List.mem_cons_self ..);rw [E_cons, List.append_assoc, nameF_E f first (hc q (List.mem_cons_self ..)), name_stop h8 hcc hg0 qs f false x (by simp at h; omega) (fun y hy => hc y (List.mem_cons_of_mem _ hy)) (fun y hy => hg y (List.mem_cons_of_mem _ hy)) (fun h => (by cases h)), List.length_append, if_neg];rw [h1]
  cases hf : first
  ·simp
  ·rw [hb hf q rfl];simp
theorem nameR_len {nm : Tx} (h : nameR nm = true) : nm ≠ [] := fun e => by
 rw [e, nameR_nil] at h;cases h
theorem nameR_V {nm : Tx} (h : nameR nm = true) : V nm := by
 obtain ⟨rs, e, _, hr, _⟩ := nameR_runes h;exact ⟨rs, hr, e⟩
theorem name_at {nm : Tx} {c : UInt8} (h : nameR nm = true) (h8 : c.toNat < 128) (hcc : Utf.Char (c.toNat : Nat) = true) (hg0 : GoesOn (c.toNat : Nat) = false) (y : Tx) : name (nm ++ c :: y) = .ok nm nm.length := by
 obtain ⟨rs, e, h0, hr, hg, hb⟩ := nameR_runes h
 have hl : nameL (nm ++ c :: y) = nm.length := by
  unfold nameL;rw [e];refine name_stop h8 hcc hg0 rs _ true y ?_ hr hg fun _ => hb
  have := E_ge hr;rw [List.length_append];omega
 have hn := nameR_len h;have hp : nm.length ≠ 0 := fun e => hn (List.eq_nil_of_length_eq_zero e)
 unfold name;rw [if_neg (by simp), hl, if_neg hp, List.take_left]
theorem begins_byte : ∀ c : Fin 128, Begins ((c.val : Nat) : Int) = true -> c.val ≠ 33 /\ c.val ≠ 47 /\ c.val ≠ 60 /\ c.val ≠ 62 /\ c.val ≠ 63 /\ c.val ≠ 34 /\ c.val ≠ 39 /\ c.val ≠ 61 /\ Qx.blank (UInt8.ofNat c.val) = false := by decide +kernel
theorem nameR_head {nm : Tx} (h : nameR nm = true) : ∃ c t, nm = c :: t /\ c ≠ 33 /\ c ≠ 47 /\ c ≠ 60 /\ c ≠ 62 /\ c ≠ 63 /\ Qx.blank c = false := by
 obtain ⟨rs, e, h0, hr, hg, hb⟩ := nameR_runes h
 cases rs with
 | nil => exact absurd rfl h0
 | cons r rs =>
  have hv := isRune_of_char (hr r (List.mem_cons_self ..));have hbr := hb r rfl;rw [E_cons] at e;rcases enc_bytes hv with ⟨h8, h1⟩ | h1
  ·rw [h1] at e;have g := begins_byte ⟨r, h8⟩ hbr;simp only at g;refine ⟨UInt8.ofNat r, E rs, e, ?_⟩;have ht : (UInt8.ofNat r).toNat = r := by rw [UInt8.toNat_ofNat']; omega
   refine ⟨fun q => g.1 ?_, fun q => g.2.1 ?_, fun q => g.2.2.1 ?_, fun q => g.2.2.2.1 ?_, fun q => g.2.2.2.2.1 ?_, g.2.2.2.2.2.2.2.2⟩ <;> (rw [<- ht, q]; rfl)
  ·have hp := encB_pos hv
   cases hE : encB (r : Nat) with
   | nil => rw [hE] at hp; simp at hp
   | cons b l =>
    rw [hE] at e h1;have hb8 := h1 b (List.mem_cons_self ..);refine ⟨b, l ++ E rs, e, ?_⟩;refine ⟨?_, ?_, ?_, ?_, ?_, ?_⟩
    iterate 5 (intro q; rw [q] at hb8; exact absurd hb8 (by decide))
    unfold Qx.blank Blank;simp;omega
/-! ### Characters -/
theorem esc1_cases (value : Bool) (c : UInt8) :
  (esc1 value c = [c] /\ c ≠ 38 /\ c ≠ 60 /\ c ≠ 13 /\ (value = false -> c ≠ 62) /\ (value = true -> c ≠ 34 /\ c ≠ 9 /\ c ≠ 10)) ∨
  ∃ e, esc1 value c = 38 :: e /\ (∀ y, refR (e ++ y) = .ok [c] (e.length + 1)) /\ 62 ∉ e /\ (∀ b ∈ e, b.toNat < 128 /\ Utf.Char (b.toNat : Nat) = true) /\ e.length <= 5 := by
 have key : ∀ (x : Tx) (v : Nat) (c : UInt8), 59 ∉ x -> refV x = some v -> encB (v : Nat) = [c] -> ∀ y, refR (x ++ [59] ++ y) = .ok [c] ((x ++ [59]).length + 1) := fun x v c h1 h2 h3 y => by
  rw [List.append_assoc, List.singleton_append, refR_of h1 y, h2];simp only;rw [h3, List.length_append];rfl
 unfold esc1
 by_cases h1 : c = 38
 ·rw [if_pos h1, h1];exact .inr ⟨_, rfl, key [97, 109, 112] 38 38 (by decide) (by decide) (encB_byte (c := 38) (by decide)), by decide, by decide, by decide⟩
 rw [if_neg h1]
 by_cases h2 : c = 60
 ·rw [if_pos h2, h2];exact .inr ⟨_, rfl, key [108, 116] 60 60 (by decide) (by decide) (encB_byte (c := 60) (by decide)), by decide, by decide, by decide⟩
 rw [if_neg h2]
 by_cases h3 : c = 13
 ·rw [if_pos h3, h3];exact .inr ⟨_, rfl, key [35, 49, 51] 13 13 (by decide) (by decide +kernel) (encB_byte (c := 13) (by decide)), by decide, by decide, by decide⟩
 rw [if_neg h3]
 by_cases h4 : c = 62 /\ value = false
 ·rw [if_pos h4, h4.1];exact .inr ⟨_, rfl, key [103, 116] 62 62 (by decide) (by decide) (encB_byte (c := 62) (by decide)), by decide, by decide, by decide⟩
 rw [if_neg h4]
 by_cases h5 : c = 34 /\ value = true
 ·rw [if_pos h5, h5.1];exact .inr ⟨_, rfl, key [113, 117, 111, 116] 34 34 (by decide) (by decide) (encB_byte (c := 34) (by decide)), by decide, by decide, by decide⟩
 rw [if_neg h5]
 by_cases h6 : c = 9 /\ value = true
 ·rw [if_pos h6, h6.1];exact .inr ⟨_, rfl, key [35, 57] 9 9 (by decide) (by decide +kernel) (encB_byte (c := 9) (by decide)), by decide, by decide, by decide⟩
 rw [if_neg h6]
 by_cases h7 : c = 10 /\ value = true
 ·rw [if_pos h7, h7.1];exact .inr ⟨_, rfl, key [35, 49, 48] 10 10 (by decide) (by decide +kernel) (encB_byte (c := 10) (by decide)), by decide, by decide, by decide⟩
 rw [if_neg h7];exact .inl ⟨rfl, h1, h2, h3, fun hv e => h4 ⟨e, hv⟩, fun hv => ⟨fun e => h5 ⟨e, hv⟩, fun e => h6 ⟨e, hv⟩, fun e => h7 ⟨e, hv⟩⟩⟩
theorem esc_no62 : ∀ s : Tx, 62 ∉ esc false s
 | [] => by simp [esc]
 | c :: s => by
  rw [esc, List.mem_append, not_or];refine ⟨?_, esc_no62 s⟩;rcases esc1_cases false c with ⟨h, _, _, _, h4, _⟩ | ⟨e, h, _, h2, _⟩
  ·rw [h, List.mem_singleton];exact fun q => h4 rfl q.symm
  ·rw [h, List.mem_cons, not_or];exact ⟨by decide, h2⟩
theorem valF_esc : ∀ (v : Tx) {f : Nat} (out y : Tx), (esc true v).length < f -> valF f 34 (esc true v ++ 34 :: y) out = .ok (out ++ v) ((esc true v).length + 1)
 | [], 0, out, y, h => absurd h (by omega)
 | [], f + 1, out, y, h => by
  show valF (f + 1) 34 (34 :: y) out = _
  rw [valF, if_pos rfl, List.append_nil];rfl
 | c :: v, 0, out, y, h => absurd h (by omega)
 | c :: v, f + 1, out, y, h => by
  rw [esc] at h ⊢;rw [List.length_append] at h ⊢;rcases esc1_cases true c with ⟨e, h1, h2, h3, _, h5⟩ | ⟨e, he, hr, _, _⟩
  ·obtain ⟨h6, h7, h8⟩ := h5 rfl;rw [e] at h ⊢;simp only [List.length_singleton] at h ⊢;rw [List.append_assoc, List.singleton_append, valF, if_neg h6, if_neg h2, if_neg h1, if_neg (fun q => q.elim h7 fun q => q.elim h8 h3), valF_esc v _ y (by omega)];simp only [Out.shift, List.append_assoc, List.singleton_append]
   all_goals (congr 1 <;> omega)
  ·rw [he] at h ⊢;simp only [List.length_cons] at h ⊢;rw [List.append_assoc, List.cons_append, valF, if_neg (by decide), if_neg (by decide), if_pos rfl, hr];simp only [List.drop_succ_cons, List.drop_left];rw [valF_esc v _ y (by omega)];simp only [Out.shift, List.append_assoc, List.singleton_append]
   all_goals (congr 1 <;> omega)
theorem value_esc (v y : Tx) : value (34 :: (esc true v ++ 34 :: y)) = .ok v ((esc true v).length + 2) := by
 rw [value, if_pos (.inl rfl), valF_esc v [] y (by simp; omega)];simp only [Out.shift, List.nil_append]
 all_goals (congr 1 <;> omega)
theorem no_end {c : UInt8} {s y : Tx} (hy : y = [] \/ y.head? = some 60) : Lib.hasPrefix (c :: (esc false s ++ y)) [93, 93, 62] = false := by
 cases hp : Lib.hasPrefix (c :: (esc false s ++ y)) [93, 93, 62] with
 | false => rfl
 | true =>
  exfalso;obtain ⟨x, hx⟩ := hp_cut hp;simp only [List.cons_append, List.nil_append] at hx;injection hx with _ hx;have hno := esc_no62 s
  match he : esc false s with
  | [] =>
   rw [he, List.nil_append] at hx;rcases hy with rfl | hy
   ·cases hx
   ·rw [hx] at hy;simp at hy
  | [a] =>
   rw [he] at hx;injection hx with _ hx;have hx : y = 62 :: x := hx;rcases hy with rfl | hy
   ·cases hx
   ·rw [hx] at hy;simp at hy
  | a :: b :: l =>
   rw [he] at hx hno;injection hx with _ hx;injection hx with hx _;exact hno (by rw [hx]; simp)
theorem textF_esc : ∀ (s : Tx) {f : Nat} (out y : Tx), (y = [] \/ y.head? = some 60) -> (esc false s).length < f -> textF f (esc false s ++ y) out = .ok (out ++ s) (esc false s).length
 | _, 0, out, y, _, h => absurd h (by omega)
 | [], f + 1, out, y, hy, h => by
  show textF (f + 1) y out = _
  rw [List.append_nil];rcases hy with rfl | hy
  ·rw [textF];rfl
  ·cases y with
   | nil => simp at hy
   | cons b y =>
    simp at hy;rw [textF, if_pos hy];rfl
 | c :: s, f + 1, out, y, hy, h => by
  rw [esc] at h ⊢;rw [List.length_append] at h ⊢;rcases esc1_cases false c with ⟨e, h1, h2, h3, h4, _⟩ | ⟨e, he, hr, _, _⟩
  ·rw [e] at h ⊢;simp only [List.length_singleton] at h ⊢;rw [List.append_assoc, List.singleton_append, textF, if_neg h2, if_neg h1, if_neg h3, no_end hy];simp only [Bool.false_eq_true, if_false];rw [textF_esc s _ y hy (by omega)];simp only [Out.shift, List.append_assoc, List.singleton_append]
   all_goals (congr 1 <;> omega)
  ·rw [he] at h ⊢;simp only [List.length_cons] at h ⊢;rw [List.append_assoc, List.cons_append, textF, if_neg (by decide), if_pos rfl, hr];simp only [List.drop_succ_cons, List.drop_left];rw [textF_esc s _ y hy (by omega)];simp only [Out.shift, List.append_assoc, List.singleton_append]
   all_goals (congr 1 <;> omega)
theorem esc_ne {value : Bool} {s : Tx} (h : s ≠ []) : ∃ c t, esc value s = c :: t /\ c ≠ 60 := by
 cases s with
 | nil => exact absurd rfl h
 | cons c s =>
  rw [esc];rcases esc1_cases value c with ⟨e, h1, h2, h3, _⟩ | ⟨e, he, hr, _, _⟩
  ·exact ⟨c, esc value s, by rw [e]; rfl, h2⟩
  ·exact ⟨38, e ++ esc value s, by rw [he]; rfl, by decide⟩
theorem token_text {s : Tx} (h : s ≠ []) {y : Tx} (hy : y = [] \/ y.head? = some 60) : Xl.token (esc false s ++ y) = .ok ⟨4, 0, [], s, []⟩ (esc false s).length := by
 obtain ⟨c, t, hc, h6⟩ := esc_ne (value := false) h;unfold Xl.token;rw [if_pos (by rw [hc]; simp; exact h6)];unfold chars;rw [textF_esc s [] y hy (by simp; omega)];rfl
/-! ### Attributes -/
theorem attr_at {there : List At} {a : At} (h1 : nameR a.1 = true) (h2 : a.1 ∉ there.map (·.1)) (y : Tx) : attr there (a.1 ++ [61, 34] ++ esc true a.2 ++ [34] ++ y) = .ok a (a.1.length + 3 + (esc true a.2).length) := by
 have e : a.1 ++ [61, 34] ++ esc true a.2 ++ [34] ++ y = a.1 ++ 61 :: 34 :: (esc true a.2 ++ 34 :: y) := by simp
 rw [e];have hb1 : blanks (61 :: 34 :: (esc true a.2 ++ 34 :: y)) = 0 := blanks_0 (by decide);have hb2 : blanks (34 :: (esc true a.2 ++ 34 :: y)) = 0 := blanks_0 (by decide);unfold attr;rw [name_at h1 (by decide) (by decide) (by decide)];simp only;rw [if_neg h2, List.drop_left, hb1, Nat.add_zero, List.drop_left, eat, if_pos rfl, eat];simp only [Out.shift]
 have d1 : (a.1 ++ 61 :: 34 :: (esc true a.2 ++ 34 :: y)).drop (a.1.length + (1 + 0)) = 34 :: (esc true a.2 ++ 34 :: y) := by
  rw [<- List.drop_drop, List.drop_left];rfl
 rw [d1, hb2, Nat.add_zero, d1, value_esc];simp only
 all_goals (congr 1 <;> omega)
theorem blanks_1 {c : UInt8} {t : Tx} (h : Qx.blank c = false) : blanks (32 :: c :: t) = 1 := by
 unfold blanks;rw [List.takeWhile_cons, if_pos (by decide), List.takeWhile_cons, if_neg (by rw [h]; decide)];rfl
theorem writeA_len : ∀ l : List At, l.length <= (writeA l).length
 | [] => by simp
 | a :: l => by
  have := writeA_len l;rw [writeA];simp;omega
theorem tagF_at {e : Bool} {y : Tx} : ∀ (l there : List At) {f : Nat}, attrsOk (there.map (·.1)) l = true -> l.length < f →
  tagF f (writeA l ++ ((if e then [47, 62] else [62]) ++ y)) there = .ok (e, there ++ l) ((writeA l).length + (if e then 2 else 1))
 | _, _, 0, _, h => absurd h (by omega)
 | [], there, f + 1, _, _ => by
  rw [writeA, List.nil_append, List.append_nil]
  cases e with
  | true =>
   have hb : blanks (47 :: 62 :: y) = 0 := blanks_0 (by decide)
   show tagF (f + 1) (47 :: 62 :: y) there = _
   rw [tagF_cons f there (c := 47) (t := 62 :: y) (by rw [hb]; rfl), if_neg (by decide), if_pos rfl, hb];rfl
  | false =>
   have hb : blanks (62 :: y) = 0 := blanks_0 (by decide)
   show tagF (f + 1) (62 :: y) there = _
   rw [tagF_cons f there (c := 62) (t := y) (by rw [hb]; rfl), if_pos rfl, hb];rfl
 | a :: l, there, f + 1, h, hf => by
  rw [attrsOk, Bool.and_eq_true, Bool.and_eq_true, Bool.and_eq_true, decide_eq_true_eq] at h;obtain ⟨⟨⟨h1, h2⟩, h3⟩, h4⟩ := h;obtain ⟨c, t, hc, n1, n2, n3, n4, n5, n6⟩ := nameR_head h1;obtain ⟨z, hz⟩ : ∃ z, writeA l ++ ((if e then [47, 62] else [62]) ++ y) = z := ⟨_, rfl⟩
  have e1 : writeA (a :: l) ++ ((if e then [47, 62] else [62]) ++ y) = 32 :: (a.1 ++ [61, 34] ++ esc true a.2 ++ [34] ++ z) := by
   rw [writeA, <- hz];simp
  have e2 : ∃ t', a.1 ++ [61, 34] ++ esc true a.2 ++ [34] ++ z = c :: t' := ⟨t ++ [61, 34] ++ esc true a.2 ++ [34] ++ z, by rw [hc]; simp⟩;obtain ⟨t', ht'⟩ := e2;have hat := attr_at h1 h3 z;rw [ht'] at hat;have hb : blanks (32 :: c :: t') = 1 := blanks_1 n6;rw [e1, ht', tagF_cons f there (c := c) (t := t') (by rw [hb]; rfl), if_neg n4, if_neg n2, hb, if_neg (by decide), hat];simp only;rw [<- ht']
  have hd : (a.1 ++ [61, 34] ++ esc true a.2 ++ [34] ++ z).drop (a.1.length + 3 + (esc true a.2).length) = z := by
   have : a.1.length + 3 + (esc true a.2).length = (a.1 ++ [61, 34] ++ esc true a.2 ++ [34]).length := by simp; omega
   rw [this, List.drop_left]
  rw [hd, <- hz, tagF_at l (there ++ [a]) (by rw [List.map_append]; exact h4) (by simp at hf; omega)];simp only [Out.shift, List.append_assoc, List.singleton_append]
  congr 1
  rw [writeA];simp;omega
end Go.Proofs.YtokdnhdfmgfkeaaGreatDoor.Xo
end

section
namespace Go.Proofs.YtokdnhdfmgfkeaaGreatDoor.Xo
open Go.RowKit UtfW Qx Xl Xt
theorem hp2 (a b c : UInt8) (t : Tx) : Lib.hasPrefix (a :: c :: t) [a, b] = (b == c) := by
 simp [Lib.hasPrefix, List.isPrefixOf]
theorem tail_head (as_ : List At) (e : Bool) (y : Tx) : ∃ c z, writeA as_ ++ ((if e then [47, 62] else [62]) ++ y) = c :: z /\ c.toNat < 128 /\ Utf.Char (c.toNat : Nat) = true /\ GoesOn (c.toNat : Nat) = false := by
 cases as_ with
 | cons a l =>
  rw [writeA];exact ⟨32, _, by simp; rfl, by decide, by decide, by decide⟩
 | nil =>
  cases e with
  | true => exact ⟨47, _, rfl, by decide, by decide, by decide⟩
  | false => exact ⟨62, _, rfl, by decide, by decide, by decide⟩
theorem token_tag {nm : Tx} {as_ : List At} (e : Bool) (y : Tx) (h : nameR nm = true) (ha : attrsOk [] as_ = true) :
  Xl.token (60 :: (nm ++ (writeA as_ ++ ((if e then [47, 62] else [62]) ++ y)))) = .ok ⟨if e then 2 else 1, 0, nm, [], as_⟩ (1 + nm.length + ((writeA as_).length + (if e then 2 else 1))) := by
 obtain ⟨c, t, hc, n1, n2, n3, n4, n5, n6⟩ := nameR_head h;obtain ⟨c', z, hz, q1, q2, q3⟩ := tail_head as_ e y;have hf : attrsOk (([] : List At).map (·.1)) as_ = true := ha;unfold Xl.token;rw [if_neg (by simp)]
 have hd : (60 :: (nm ++ (writeA as_ ++ ((if e then [47, 62] else [62]) ++ y)))).drop (1 + nm.length) = writeA as_ ++ ((if e then [47, 62] else [62]) ++ y) := by
  rw [Nat.add_comm, List.drop_succ_cons, List.drop_left]
 have e1 : ∃ x, 60 :: (nm ++ (writeA as_ ++ ((if e then [47, 62] else [62]) ++ y))) = 60 :: c :: x := ⟨t ++ (writeA as_ ++ ((if e then [47, 62] else [62]) ++ y)), by rw [hc]; rfl⟩;obtain ⟨x, hx⟩ := e1;have p1 : Lib.hasPrefix (60 :: (nm ++ (writeA as_ ++ ((if e then [47, 62] else [62]) ++ y)))) [60, 33] = false := by rw [hx, hp2, beq_eq_false_iff_ne]; exact n1.symm
 have p2 : Lib.hasPrefix (60 :: (nm ++ (writeA as_ ++ ((if e then [47, 62] else [62]) ++ y)))) [60, 63] = false := by rw [hx, hp2, beq_eq_false_iff_ne]; exact n5.symm
 have p3 : Lib.hasPrefix (60 :: (nm ++ (writeA as_ ++ ((if e then [47, 62] else [62]) ++ y)))) [60, 47] = false := by rw [hx, hp2, beq_eq_false_iff_ne]; exact n2.symm
 rw [p1, p2, p3];simp only [Bool.false_eq_true, if_false];unfold tag
 have hn : name ((60 :: (nm ++ (writeA as_ ++ ((if e then [47, 62] else [62]) ++ y)))).drop 1) = .ok nm nm.length := by
  rw [List.drop_succ_cons, List.drop_zero, hz];exact name_at h q1 q2 q3 z
 rw [hn];simp only;rw [hd, tagF_at as_ [] hf (by have := writeA_len as_; simp; omega)];simp only [List.nil_append]
theorem token_end {nm : Tx} (h : nameR nm = true) (y : Tx) : Xl.token (60 :: 47 :: (nm ++ 62 :: y)) = .ok ⟨3, 0, nm, [], []⟩ (nm.length + 3) := by
 unfold Xl.token;rw [if_neg (by simp), hp2, hp2, hp2];simp only [show ((33 : UInt8) == 47) = false by decide, show ((63 : UInt8) == 47) = false by decide, show ((47 : UInt8) == 47) = true by decide, Bool.false_eq_true, if_false, if_true];unfold Xl.endT;have hb : blanks (62 :: y) = 0 := blanks_0 (by decide)
 have hd : (60 :: 47 :: (nm ++ 62 :: y)).drop (2 + nm.length) = 62 :: y := by
  rw [<- List.drop_drop]
  show (nm ++ 62 :: y).drop nm.length = _
  rw [List.drop_left]
 rw [List.drop_succ_cons, List.drop_succ_cons, List.drop_zero, name_at h (by decide) (by decide) (by decide)];simp only;rw [hd, hb, Nat.add_zero, hd, eat, if_pos rfl, eat];simp only [Out.shift]
 all_goals (congr 1 <;> omega)
theorem find_mid {a b : UInt8} {z : Tx} : ∀ {s : Tx}, find [a, b] s = none -> (a ≠ b \/ s.getLast? ≠ some a) -> find [a, b] (s ++ a :: b :: z) = some s.length
 | [], _, _ => by
  rw [List.nil_append, find, if_pos (by simp [List.isPrefixOf])];rfl
 | c :: s, h, hl => by
  rw [find] at h
  split at h
  ·cases h
  ·rename_i hp
   have hs : find [a, b] s = none := by
    cases hs : find [a, b] s with
    | none => rfl
    | some n => rw [hs] at h; cases h
   rw [List.cons_append, find, if_neg, find_mid hs]
   ·rfl
   ·rcases hl with hl | hl
    ·exact .inl hl
    ·cases s with
     | nil => exact .inr (by simp)
     | cons d s => exact .inr (by rw [List.getLast?_cons_cons] at hl; exact hl)
   ·intro hq
    cases s with
    | nil =>
     simp [List.isPrefixOf] at hq;rcases hl with hl | hl
     ·exact hl hq.2.symm
     ·exact hl (by simp [hq.1])
    | cons d s =>
     apply hp
     simpa [List.isPrefixOf] using hq
theorem upto_mid {a b : UInt8} {z s : Tx} (h : find [a, b] s = none) (hl : a ≠ b \/ s.getLast? ≠ some a) : upto [a, b] (s ++ a :: b :: z) = .ok s (s.length + 2) := by
 unfold upto;rw [find_mid h hl];simp only;rw [List.take_left];rfl
theorem lines_id {s : Tx} (h : 13 ∉ s) : Utf.lines s = s := by
 have := lines_app h [];rw [List.append_nil] at this;rw [this];simp [Utf.lines]
theorem token_comment {s : Tx} (h1 : 13 ∉ s) (h2 : find [45, 45] s = none) (h3 : s.getLast? ≠ some 45) (y : Tx) : Xl.token (60 :: 33 :: 45 :: 45 :: (s ++ 45 :: 45 :: 62 :: y)) = .ok ⟨6, 0, [], s, []⟩ (s.length + 7) := by
 unfold Xl.token;rw [if_neg (by simp), hp2];simp only [show ((33 : UInt8) == 33) = true by decide, if_true];unfold Xl.mark;have hp : Lib.hasPrefix (60 :: 33 :: 45 :: 45 :: (s ++ 45 :: 45 :: 62 :: y)) cmT = true := by simp [Lib.hasPrefix, cmT, List.isPrefixOf]
 rw [hp, if_pos rfl];unfold comment;have hd : (60 :: 33 :: 45 :: 45 :: (s ++ 45 :: 45 :: 62 :: y)).drop 4 = s ++ 45 :: 45 :: 62 :: y := rfl
 have hd2 : (60 :: 33 :: 45 :: 45 :: (s ++ 45 :: 45 :: 62 :: y)).drop (4 + (s.length + 2)) = 62 :: y := by
  rw [<- List.drop_drop, hd, <- List.drop_drop, List.drop_left];rfl
 rw [hd, upto_mid h2 (.inr h3)];simp only;rw [hd2];simp only [if_true];rw [lines_id h1]
 all_goals (congr 1 <;> omega)
theorem pi_head (s y : Tx) : ∃ c z, (if s = [] then [] else 32 :: s) ++ 63 :: 62 :: y = c :: z /\ c.toNat < 128 /\ Utf.Char (c.toNat : Nat) = true /\ GoesOn (c.toNat : Nat) = false := by
 split
 ·exact ⟨63, _, rfl, by decide, by decide, by decide⟩
 ·exact ⟨32, _, rfl, by decide, by decide, by decide⟩
theorem token_pi {nm s : Tx} (h : nameR nm = true) (hx : nm.map low ≠ xml3) (h1 : 13 ∉ s) (h2 : find [63, 62] s = none) (h3 : headOk s = true) (y : Tx) :
  Xl.token (60 :: 63 :: (nm ++ ((if s = [] then [] else 32 :: s) ++ 63 :: 62 :: y))) = .ok ⟨7, 0, nm, s, []⟩ (2 + nm.length + ((if s = [] then 0 else 1 + s.length) + 2)) := by
 unfold Xl.token;rw [if_neg (by simp), hp2, hp2];simp only [show ((33 : UInt8) == 63) = false by decide, show ((63 : UInt8) == 63) = true by decide, Bool.false_eq_true, if_false, if_true];unfold instr;obtain ⟨c, z, hz, q1, q2, q3⟩ := pi_head s y
 have hn : name ((60 :: 63 :: (nm ++ ((if s = [] then [] else 32 :: s) ++ 63 :: 62 :: y))).drop 2) = .ok nm nm.length := by
  rw [List.drop_succ_cons, List.drop_succ_cons, List.drop_zero, hz];exact name_at h q1 q2 q3 z
 have hd : (60 :: 63 :: (nm ++ ((if s = [] then [] else 32 :: s) ++ 63 :: 62 :: y))).drop (2 + nm.length) = (if s = [] then [] else 32 :: s) ++ 63 :: 62 :: y := by
  rw [<- List.drop_drop]
  show (nm ++ _).drop nm.length = _
  rw [List.drop_left]
 rw [hn];simp only;rw [hd, if_neg (show ¬ nm.map low = [120, 109, 108] from hx)]
 by_cases hs : s = []
 ·subst hs;have hb : blanks (63 :: 62 :: y) = 0 := blanks_0 (by decide);simp only [if_true, List.nil_append];rw [if_pos hb, eat, if_pos rfl, eat, if_pos rfl, eat];simp only [Out.shift]
  all_goals (congr 1 <;> omega)
 ·rw [if_neg hs]
  cases s with
  | nil => exact absurd rfl hs
  | cons d s =>
   have hd8 : Qx.blank d = false := by
    unfold headOk at h3
    simpa using h3
   have hb : blanks (32 :: (d :: s) ++ 63 :: 62 :: y) = 1 := blanks_1 hd8;rw [if_neg hs] at hd;rw [hb, if_neg (by decide), <- List.drop_drop, hd];have hd2 : (32 :: (d :: s) ++ 63 :: 62 :: y).drop 1 = (d :: s) ++ 63 :: 62 :: y := rfl;rw [hd2, upto_mid h2 (.inl (by decide))];simp only;rw [lines_id h1, if_neg hs]
   all_goals (congr 1 <;> omega)
/-! ### Trees as tokens -/
mutual
def toksN : Nd -> List Xl.Tok
 | .mk k nm tx as_ ks =>
  if k = 1 then (if ks.isEmpty then [⟨2, 0, nm, [], as_⟩] else ⟨1, 0, nm, [], as_⟩ :: (toksL ks ++ [⟨3, 0, nm, [], []⟩]))
  else if k = 2 then [⟨4, 0, [], tx, []⟩]
  else if k = 3 then [⟨6, 0, [], tx, []⟩]
  else [⟨7, 0, nm, tx, []⟩]
def toksL : List Nd -> List Xl.Tok
 | [] => []
 | x :: xs => toksN x ++ toksL xs
end
def strip (t : Xl.Tok) : Xl.Tok := { t with at_ := 0 }
theorem run_one {p y : Tx} {t : Xl.Tok} (h : Xl.token (p ++ y) = .ok t p.length) (hp : p ≠ []) (f k : Nat) (ts : List Xl.Tok) : Xl.runF (f + 1) (p ++ y) k ts = Xl.runF f y (k + p.length) (ts ++ [{ t with at_ := k }]) := by
 rw [Xl.runF, if_neg (by simp [hp]), h];simp only;rw [List.drop_left]
theorem run_end (f k : Nat) (ts : List Xl.Tok) : Xl.runF f [] k ts = (0, 0, ts) := by
 cases f with
 | zero => rfl
 | succ f => rw [Xl.runF, if_pos rfl]
def Reads_ (p y : Tx) (us : List Xl.Tok) : Prop := ∃ vs : List Xl.Tok, vs.map strip = us /\ vs.length <= p.length /\ ∀ (f k : Nat) (ts : List Xl.Tok), ∃ zs : List Xl.Tok, zs.map strip = us /\ zs.length = vs.length /\ Xl.runF (f + vs.length) (p ++ y) k ts = Xl.runF f y (k + p.length) (ts ++ zs)
theorem Reads_.nil (y : Tx) : Reads_ [] y [] := ⟨[], rfl, Nat.le_refl _, fun f k ts => ⟨[], rfl, rfl, by simp⟩⟩
theorem Reads_.one {p y : Tx} {t : Xl.Tok} (h : Xl.token (p ++ y) = .ok t p.length) (hp : p ≠ []) : Reads_ p y [strip t] :=
 ⟨[t], rfl, by cases p with | nil => exact absurd rfl hp | cons c p => simp, fun f k ts => ⟨[{ t with at_ := k }], rfl, rfl, run_one h hp f k ts⟩⟩
theorem Reads_.append {p q y : Tx} {us ws : List Xl.Tok} (h1 : Reads_ p (q ++ y) us) (h2 : Reads_ q y ws) : Reads_ (p ++ q) y (us ++ ws) := by
 obtain ⟨vs, e1, l1, g1⟩ := h1;obtain ⟨xs, e2, l2, g2⟩ := h2;refine ⟨vs ++ xs, by rw [List.map_append, e1, e2], by simp; omega, fun f k ts => ?_⟩;obtain ⟨zs, a1, a2, a3⟩ := g1 (f + xs.length) k ts;obtain ⟨zs', b1, b2, b3⟩ := g2 f (k + p.length) (ts ++ zs);refine ⟨zs ++ zs', by rw [List.map_append, a1, b1], by simp [a2, b2], ?_⟩;rw [List.length_append, List.length_append, List.append_assoc, show f + (vs.length + xs.length) = f + xs.length + vs.length by omega, a3, b3, List.append_assoc, Nat.add_assoc]
theorem head60 : ∀ {n : Nd}, fairN n = true -> n.kind ≠ 2 -> ∃ t, writeN n = 60 :: t
 | .mk k nm tx as_ ks, h, hk => by
  have hk : k ≠ 2 := hk;rw [writeN]
  split
  ·exact ⟨_, rfl⟩
  ·split
   ·exact ⟨_, rfl⟩
   ·split
    ·exact ⟨_, rfl⟩
    ·rw [fairN] at h
     simp_all
mutual
theorem reads_N : ∀ (n : Nd), fairN n = true -> ∀ y : Tx, (n.kind = 2 -> y = [] \/ y.head? = some 60) -> Reads_ (writeN n) y (toksN n)
 | .mk k nm tx as_ ks, h, y, hy => by
  rw [fairN] at h;rw [writeN, toksN]
  by_cases h1 : k = 1
  ·rw [if_pos h1] at h ⊢;rw [if_pos h1];simp only [Bool.and_eq_true] at h;obtain ⟨⟨⟨hn, _⟩, ha⟩, hk⟩ := h
   by_cases hks : ks.isEmpty = true
   ·rw [if_pos hks, if_pos hks];have := token_tag true y hn ha;refine Reads_.one (t := ⟨2, 0, nm, [], as_⟩) ?_ (by simp);rw [show 60 :: nm ++ writeA as_ ++ [47, 62] ++ y = 60 :: (nm ++ (writeA as_ ++ ([47, 62] ++ y))) by simp];simp only [if_true] at this;rw [this]
    congr 1
    simp;omega
   ·rw [if_neg hks, if_neg hks];have e1 : 60 :: nm ++ writeA as_ ++ ([62] ++ writeL ks ++ ([60, 47] ++ nm ++ [62])) = (60 :: nm ++ writeA as_ ++ [62]) ++ (writeL ks ++ ([60, 47] ++ nm ++ [62])) := (by simp);rw [e1]
    have hlast : Reads_ ([60, 47] ++ nm ++ [62]) y [⟨3, 0, nm, [], []⟩] := by
     have := token_end hn y;refine Reads_.one (t := ⟨3, 0, nm, [], []⟩) ?_ (by simp);rw [show [60, 47] ++ nm ++ [62] ++ y = 60 :: 47 :: (nm ++ 62 :: y) by simp, this]
     congr 1
     simp
    have hmid := reads_L ks 0 hk ([60, 47] ++ nm ++ [62] ++ y) (.inr (by simp))
    have hfirst : Reads_ (60 :: nm ++ writeA as_ ++ [62]) (writeL ks ++ ([60, 47] ++ nm ++ [62]) ++ y) [⟨1, 0, nm, [], as_⟩] := by
     have := token_tag false (writeL ks ++ ([60, 47] ++ nm ++ [62]) ++ y) hn ha;refine Reads_.one (t := ⟨1, 0, nm, [], as_⟩) ?_ (by simp);simp only [Bool.false_eq_true, if_false] at this;rw [show 60 :: nm ++ writeA as_ ++ [62] ++ (writeL ks ++ ([60, 47] ++ nm ++ [62]) ++ y) = 60 :: (nm ++ (writeA as_ ++ ([62] ++ (writeL ks ++ ([60, 47] ++ nm ++ [62]) ++ y)))) by simp, this]
     congr 1
     simp;omega
    exact hfirst.append (hmid.append hlast)
  ·rw [if_neg h1] at h ⊢;rw [if_neg h1]
   by_cases h2 : k = 2
   ·rw [if_pos h2] at h ⊢;rw [if_pos h2];simp only [Bool.and_eq_true, decide_eq_true_eq] at h;exact Reads_.one (t := ⟨4, 0, [], tx, []⟩) (token_text h.1.2 (hy h2)) (by obtain ⟨c, t, e, _⟩ := esc_ne (value := false) h.1.2; rw [e]; simp)
   ·rw [if_neg h2] at h ⊢;rw [if_neg h2]
    by_cases h3 : k = 3
    ·rw [if_pos h3] at h ⊢;rw [if_pos h3];simp only [Bool.and_eq_true, decide_eq_true_eq, plainT, Option.isNone_iff_eq_none] at h;obtain ⟨⟨⟨_, _, g1⟩, g2⟩, g3⟩ := h;have := token_comment g1 g2 g3 y;refine Reads_.one (t := ⟨6, 0, [], tx, []⟩) ?_ (by simp);rw [show [60, 33, 45, 45] ++ tx ++ [45, 45, 62] ++ y = 60 :: 33 :: 45 :: 45 :: (tx ++ 45 :: 45 :: 62 :: y) by simp, this]
     congr 1
     simp
    ·rw [if_neg h3] at h ⊢;rw [if_neg h3]
     by_cases h4 : k = 4
     ·rw [if_pos h4] at h ⊢;simp only [Bool.and_eq_true, decide_eq_true_eq, plainT, Option.isNone_iff_eq_none] at h;obtain ⟨⟨⟨⟨⟨_, g0⟩, g00⟩, _, g1⟩, g2⟩, g3⟩ := h;have := token_pi g0 g00 g1 g2 g3 y;refine Reads_.one (t := ⟨7, 0, nm, tx, []⟩) ?_ (by simp);rw [show [60, 63] ++ nm ++ (if tx = [] then [] else 32 :: tx) ++ [63, 62] ++ y = 60 :: 63 :: (nm ++ ((if tx = [] then [] else 32 :: tx) ++ 63 :: 62 :: y)) by simp, this]
      congr 1
      split <;> simp <;> omega
     ·rw [if_neg h4] at h;cases h
theorem reads_L : ∀ (ks : List Nd) (was : Int), fairL was ks = true -> ∀ y : Tx, (y = [] \/ y.head? = some 60) -> Reads_ (writeL ks) y (toksL ks)
 | [], _, _, y, _ => by
  rw [writeL, toksL];exact Reads_.nil y
 | x :: xs, was, h, y, hy => by
  rw [fairL] at h;simp only [Bool.and_eq_true] at h;obtain ⟨⟨hx, _⟩, hxs⟩ := h;rw [writeL, toksL];refine Reads_.append (reads_N x hx (writeL xs ++ y) fun h2 => ?_) (reads_L xs x.kind hxs y hy)
  cases xs with
  | nil => rw [writeL]; exact hy
  | cons z zs =>
   rw [fairL, h2] at hxs;simp only [Bool.and_eq_true, Bool.not_eq_true', Bool.and_eq_false_iff, decide_eq_false_iff_not, decide_true, Bool.true_eq_false, false_or] at hxs;obtain ⟨⟨hz, hz2⟩, _⟩ := hxs;obtain ⟨t, ht⟩ := head60 hz (by simpa using hz2);exact .inr (by rw [writeL, ht]; rfl)
end
end Go.Proofs.YtokdnhdfmgfkeaaGreatDoor.Xo
end

section
namespace Go.Proofs.YtokdnhdfmgfkeaaGreatDoor.Xo
open Go.RowKit UtfW Qx Xl Xt
/-! ### What is written is valid -/
theorem esc_append (value : Bool) : ∀ a b : Tx, esc value (a ++ b) = esc value a ++ esc value b
 | [], b => rfl
 | c :: a, b => by rw [List.cons_append, esc, esc, esc_append value a b, List.append_assoc]
theorem esc1_high {value : Bool} {c : UInt8} (h : 128 <= c.toNat) : esc1 value c = [c] := by
 have hne : ∀ x : UInt8, x.toNat < 128 -> c ≠ x := fun x hx e => by rw [e] at h; omega
 unfold esc1;rw [if_neg (hne 38 (by decide)), if_neg (hne 60 (by decide)), if_neg (hne 13 (by decide)), if_neg (fun e => hne 62 (by decide) e.1), if_neg (fun e => hne 34 (by decide) e.1), if_neg (fun e => hne 9 (by decide) e.1), if_neg (fun e => hne 10 (by decide) e.1)]
theorem esc_high {value : Bool} : ∀ l : Tx, (∀ b ∈ l, 128 <= b.toNat) -> esc value l = l
 | [], _ => rfl
 | c :: l, h => by rw [esc, esc1_high (h c (List.mem_cons_self ..)), esc_high l fun b hb => h b (List.mem_cons_of_mem _ hb)]; rfl
theorem esc_V {value : Bool} {s : Tx} (h : V s) : V (esc value s) := by
 obtain ⟨rs, hr, rfl⟩ := h
 induction rs with
 | nil => exact V.nil
 | cons r rs ih =>
  have hc := hr r (List.mem_cons_self ..);rw [E_cons, esc_append];refine V.append ?_ (ih fun x hx => hr x (List.mem_cons_of_mem _ hx));rcases enc_bytes (isRune_of_char hc) with ⟨h8, h1⟩ | h1
  ·have ht : (UInt8.ofNat r).toNat = r := by rw [UInt8.toNat_ofNat']; omega
   rw [h1, esc, esc, List.append_nil];rcases esc1_cases value (UInt8.ofNat r) with ⟨e, _⟩ | ⟨e, he, _, _, h4, _⟩
   ·rw [e];exact V.one (by omega) (by rw [ht]; exact hc)
   ·rw [he]
    exact V.all fun c hm => by
     rcases List.mem_cons.1 hm with rfl | hm
     ·decide
     ·exact h4 c hm
  ·rw [esc_high _ h1];exact V.enc hc
theorem V_writeA : ∀ (l : List At) (seen : List Tx), attrsOk seen l = true -> V (writeA l)
 | [], _, _ => V.nil
 | a :: l, seen, h => by
  rw [attrsOk] at h;simp only [Bool.and_eq_true] at h;obtain ⟨⟨⟨h1, h2⟩, _⟩, h4⟩ := h;rw [writeA];have e : 32 :: a.1 ++ [61, 34] ++ esc true a.2 ++ [34] = [32] ++ (a.1 ++ ([61, 34] ++ (esc true a.2 ++ [34]))) := by simp
  rw [e];exact (V.append (V.all (l := [32]) (by decide)) (V.append (nameR_V h1) (V.append (V.all (l := [61, 34]) (by decide)) (V.append (esc_V (good_V h2)) (V.all (l := [34]) (by decide)))))).append (V_writeA l _ h4)
mutual
theorem V_writeN : ∀ n : Nd, fairN n = true -> V (writeN n)
 | .mk k nm tx as_ ks, h => by
  rw [fairN] at h;rw [writeN]
  by_cases h1 : k = 1
  ·rw [if_pos h1] at h ⊢;simp only [Bool.and_eq_true] at h;obtain ⟨⟨⟨hn, _⟩, ha⟩, hk⟩ := h;have v1 := nameR_V hn;have v2 := V_writeA _ _ ha;have e : ∀ z : Tx, 60 :: nm ++ writeA as_ ++ z = [60] ++ (nm ++ (writeA as_ ++ z)) := fun z => by simp
   rw [e];refine V.append (V.all (l := [60]) (by decide)) (V.append v1 (V.append v2 ?_))
   split
   ·exact V.all (l := [47, 62]) (by decide)
   ·have v3 := V_writeL ks _ hk;exact V.append (V.append (V.all (l := [62]) (by decide)) v3) (V.append (V.append (V.all (l := [60, 47]) (by decide)) v1) (V.all (l := [62]) (by decide)))
  ·rw [if_neg h1] at h ⊢
   by_cases h2 : k = 2
   ·rw [if_pos h2] at h ⊢;simp only [Bool.and_eq_true] at h;exact esc_V (good_V h.2)
   ·rw [if_neg h2] at h ⊢
    by_cases h3 : k = 3
    ·rw [if_pos h3] at h ⊢;simp only [Bool.and_eq_true, plainT] at h;exact V.append (V.append (V.all (l := [60, 33, 45, 45]) (by decide)) (good_V h.1.1.2.1)) (V.all (l := [45, 45, 62]) (by decide))
    ·rw [if_neg h3] at h ⊢
     by_cases h4 : k = 4
     ·rw [if_pos h4] at h ⊢;simp only [Bool.and_eq_true, plainT] at h;obtain ⟨⟨⟨⟨⟨_, g0⟩, _⟩, g1, _⟩, _⟩, _⟩ := h;refine V.append (V.append (V.append (V.all (l := [60, 63]) (by decide)) (nameR_V g0)) ?_) (V.all (l := [63, 62]) (by decide))
      split
      ·exact V.nil
      ·exact V.append (V.all (l := [32]) (by decide)) (good_V g1)
     ·rw [if_neg h4] at h;cases h
theorem V_writeL : ∀ (ks : List Nd) (was : Int), fairL was ks = true -> V (writeL ks)
 | [], _, _ => by rw [writeL]; exact V.nil
 | x :: xs, was, h => by
  rw [fairL] at h;simp only [Bool.and_eq_true] at h;rw [writeL];exact V.append (V_writeN x h.1.1) (V_writeL xs _ h.2)
end
/-! ### No declaration -/
theorem decl_of {S : Tx} (h : Lib.hasPrefix S xmlT = true -> GoesOn (nx (S.drop 5) 0).1 = true) : decl S = .ok () 0 := by
 unfold decl;rw [if_neg];rintro ⟨hp, hg⟩;rw [h hp] at hg;cases hg
theorem E_byte {rs : List Nat} {c : UInt8} {t : Tx} (hr : ∀ r ∈ rs, Utf.Char (r : Nat) = true) (h : E rs = c :: t) (hc : c.toNat < 128) : ∃ rs', rs = c.toNat :: rs' /\ t = E rs' := by
 cases rs with
 | nil => cases h
 | cons r rs =>
  have hv := isRune_of_char (hr r (List.mem_cons_self ..));rw [E_cons] at h;rcases enc_bytes hv with ⟨h8, h1⟩ | h1
  ·rw [h1] at h;injection h with e1 e2;have ht : (UInt8.ofNat r).toNat = r := by rw [UInt8.toNat_ofNat']; omega
   exact ⟨rs, by rw [<- e1, ht], e2.symm⟩
  ·have hp := encB_pos hv
   cases hE : encB (r : Nat) with
   | nil => rw [hE] at hp; simp at hp
   | cons b l =>
    rw [hE] at h h1;injection h with e1 _;have := h1 b (List.mem_cons_self ..);rw [e1] at this;omega
theorem decl_pi {nm : Tx} (h : nameR nm = true) (hx : nm.map low ≠ xml3) {c : UInt8} (hc : c = 63 \/ c = 32) (z : Tx) : decl (60 :: 63 :: (nm ++ c :: z)) = .ok () 0 := by
 refine decl_of fun hp => ?_
 obtain ⟨x, e⟩ := hp_cut hp;unfold xmlT at e
 have e : nm ++ c :: z = 120 :: 109 :: 108 :: x := by
  simp only [List.cons_append, List.nil_append] at e;injection e with _ e;injection e
 have hd : (60 :: 63 :: (nm ++ c :: z)).drop 5 = x := by rw [e]; rfl
 rw [hd];obtain ⟨rs, hE, h0, hr, hg, _⟩ := nameR_runes h;rw [hE] at e hx;have hcne : c ≠ 109 /\ c ≠ 108 := by rcases hc with rfl | rfl <;> decide
 cases e1 : E rs with
 | nil =>
  cases rs with
  | nil => exact absurd rfl h0
  | cons r rs =>
   have := E_ge hr;rw [e1] at this;simp at this
 | cons a t1 =>
  rw [e1] at e;injection e with ea e;subst ea;obtain ⟨rs1, q1, rfl⟩ := E_byte hr e1 (by decide);have hr1 : ∀ r ∈ rs1, Utf.Char (r : Nat) = true := fun r hm => hr r (by rw [q1]; exact List.mem_cons_of_mem _ hm)
  cases e2 : E rs1 with
  | nil =>
   rw [e2] at e;injection e with e _;exact absurd e hcne.1
  | cons a t2 =>
   rw [e2] at e;injection e with ea e;subst ea;obtain ⟨rs2, q2, rfl⟩ := E_byte hr1 e2 (by decide);have hr2 : ∀ r ∈ rs2, Utf.Char (r : Nat) = true := fun r hm => hr1 r (by rw [q2]; exact List.mem_cons_of_mem _ hm)
   cases e3 : E rs2 with
   | nil =>
    rw [e3] at e;injection e with e _;exact absurd e hcne.2
   | cons a t3 =>
    rw [e3] at e;injection e with ea e;subst ea;obtain ⟨rs3, q3, rfl⟩ := E_byte hr2 e3 (by decide);have hr3 : ∀ r ∈ rs3, Utf.Char (r : Nat) = true := fun r hm => hr2 r (by rw [q3]; exact List.mem_cons_of_mem _ hm)
    cases rs3 with
    | nil =>
     rw [e1, e2, e3] at hx;exact absurd (by decide) hx
    | cons r rs4 =>
     have e : encB (r : Nat) ++ (E rs4 ++ c :: z) = x := by rw [<- e, E_cons]; simp
     rw [<- e, nx_E (hr3 r (List.mem_cons_self ..))];exact hg r (by rw [q1, q2, q3]; simp)
theorem decl_2 {c : UInt8} (h : c ≠ 63) (t : Tx) : decl (60 :: c :: t) = .ok () 0 := by
 refine decl_of fun hp => ?_
 obtain ⟨x, e⟩ := hp_cut hp;unfold xmlT at e;simp only [List.cons_append] at e;injection e with _ e;injection e with e _;exact absurd e h
theorem decl_N : ∀ {n : Nd}, fairN n = true -> n.kind ≠ 2 -> ∀ y : Tx, decl (writeN n ++ y) = .ok () 0
 | .mk k nm tx as_ ks, h, hk, y => by
  have hk : k ≠ 2 := hk;rw [fairN] at h;rw [writeN]
  by_cases h1 : k = 1
  ·rw [if_pos h1] at h ⊢;simp only [Bool.and_eq_true] at h;obtain ⟨⟨⟨hn, _⟩, ha⟩, _⟩ := h;obtain ⟨c, t, hc, n1, n2, n3, n4, n5, n6⟩ := nameR_head hn;rw [hc];exact decl_2 n5 _
  ·rw [if_neg h1] at h ⊢;rw [if_neg hk] at h ⊢
   by_cases h3 : k = 3
   ·rw [if_pos h3];exact decl_2 (by decide) _
   ·rw [if_neg h3] at h ⊢
    by_cases h4 : k = 4
    ·rw [if_pos h4] at h ⊢;simp only [Bool.and_eq_true, decide_eq_true_eq] at h;obtain ⟨⟨⟨⟨⟨_, g0⟩, g00⟩, _⟩, _⟩, _⟩ := h
     obtain ⟨c, z, hz, hc⟩ : ∃ c z, (if tx = [] then [] else 32 :: tx) ++ 63 :: 62 :: y = c :: z /\ (c = 63 \/ c = 32) := by
      split
      ·exact ⟨63, _, rfl, .inl rfl⟩
      ·exact ⟨32, _, rfl, .inr rfl⟩
     rw [show [60, 63] ++ nm ++ (if tx = [] then [] else 32 :: tx) ++ [63, 62] ++ y = 60 :: 63 :: (nm ++ ((if tx = [] then [] else 32 :: tx) ++ 63 :: 62 :: y)) by simp, hz];exact decl_pi g0 g00 hc z
    ·rw [if_neg h4] at h;cases h
/-! ### The builder -/
section
variable {B A : List Nd} {R : Nd} {nm : Tx} {as_ : List At} {kk : List Nd} {F : List Fr} {p : Tx} {N : Nat}
def fl (kk : List Nd) (p : Tx) : List Nd := if p = [] then kk else kk ++ [textN p]
def S_ (B : List Nd) (R : Nd) (A : List Nd) (nm : Tx) (as_ : List At) (kk : List Nd) (F : List Fr) (p : Tx) (N : Nat) : St := ⟨B, R, true, A, ⟨nm, as_, kk⟩ :: F, p, N⟩
theorem flush_S : flush (S_ B R A nm as_ kk F p N) = S_ B R A nm as_ (fl kk p) F [] N := by
 unfold flush fl
 by_cases h : p = []
 ·rw [if_pos (show (S_ B R A nm as_ kk F p N).text = [] from h), if_pos h, h]
 ·rw [if_neg (show ¬ (S_ B R A nm as_ kk F p N).text = [] from h), if_neg h];rfl
theorem start_S {t : Xl.Tok} (h1 : F.length + 2 <= 32) (h2 : N + (1 + t.attrs.length) <= 4096) : startT (S_ B R A nm as_ kk F p N) t = .ok (S_ B R A t.name t.attrs [] (⟨nm, as_, fl kk p⟩ :: F) [] (N + (1 + t.attrs.length))) := by
 unfold startT;rw [if_neg (by show ¬ 32 <= F.length + 1; omega), if_neg (by show ¬ 4096 < N + (1 + t.attrs.length); omega), if_neg (fun e => by cases e.1)];have hf : flush { S_ B R A nm as_ kk F p N with nodes := N + (1 + t.attrs.length) } = S_ B R A nm as_ (fl kk p) F [] (N + (1 + t.attrs.length)) := flush_S;simp only
 show Except.ok _ = _
 rw [show ({ S_ B R A nm as_ kk F p N with nodes := (S_ B R A nm as_ kk F p N).nodes + (1 + t.attrs.length) } : St) = { S_ B R A nm as_ kk F p N with nodes := N + (1 + t.attrs.length) } from rfl, hf];rfl
theorem end_S {nm' : Tx} {as' : List At} {kk' : List Nd} {p' : Tx} : Xt.endT (S_ B R A nm' as' kk' (⟨nm, as_, kk⟩ :: F) p' N) = S_ B R A nm as_ (kk ++ [.mk 1 nm' [] as' (fl kk' p')]) F [] N := by
 unfold Xt.endT;rw [flush_S];rfl
theorem end_0 {nm' : Tx} {as' : List At} {kk' : List Nd} {p' : Tx} : Xt.endT (S_ B R A nm' as' kk' [] p' N) = ⟨B, .mk 1 nm' [] as' (fl kk' p'), true, A, [], [], N⟩ := by
 unfold Xt.endT;rw [flush_S];rfl
theorem run_step {s s' : St} {t : Xl.Tok} {l : List Xl.Tok} (h : Xt.stepT s t = .ok s') : Xt.runT (t :: l) s = Xt.runT l s' := by
 rw [Xt.runT, h]
theorem isEmpty_nil {α : Type} {l : List α} (h : l.isEmpty = true) : l = [] := by cases l with | nil => rfl | cons a l => cases h
theorem other_S {t : Xl.Tok} {k : Int} (h : N + 1 <= 4096) : otherT (S_ B R A nm as_ kk F p N) t k = .ok (S_ B R A nm as_ (fl kk p ++ [.mk k t.name t.text [] []]) F [] (N + 1)) := by
 unfold otherT;rw [if_neg (by show ¬ 4096 < N + 1; omega)];have hf : flush { S_ B R A nm as_ kk F p N with nodes := N + 1 } = S_ B R A nm as_ (fl kk p) F [] (N + 1) := flush_S;rw [show ({ S_ B R A nm as_ kk F p N with nodes := (S_ B R A nm as_ kk F p N).nodes + 1 } : St) = { S_ B R A nm as_ kk F p N with nodes := N + 1 } from rfl, hf];rfl
theorem other_0 {h : Bool} {t : Xl.Tok} {k : Int} (hk : k ≠ 1) (hN : N + 1 <= 4096) : otherT ⟨B, R, h, A, [], [], N⟩ t k = .ok (if h then ⟨B, R, h, A ++ [.mk k t.name t.text [] []], [], [], N + 1⟩ else ⟨B ++ [.mk k t.name t.text [] []], R, h, A, [], [], N + 1⟩) := by
 unfold otherT;rw [if_neg (by show ¬ 4096 < N + 1; omega)];have hk' : ¬ (Nd.mk k t.name t.text [] []).kind = 1 := hk;unfold flush put;simp only [if_true];rw [if_neg hk']
 all_goals (cases h <;> rfl)
mutual
theorem build_N : ∀ (n : Nd), fairN n = true -> ∀ (B : List Nd) (R : Nd) (A : List Nd) (nm : Tx) (as_ : List At) (kk : List Nd) (F : List Fr) (p : Tx) (N : Nat), (n.kind = 2 -> p = []) -> F.length + 1 + depthN n <= 32 -> N + countN n <= 4096 →
  ∀ l, ∃ kk' p', fl kk' p' = fl kk p ++ [n] /\ (n.kind ≠ 2 -> p' = []) /\ Xt.runT (toksN n ++ l) (S_ B R A nm as_ kk F p N) = Xt.runT l (S_ B R A nm as_ kk' F p' (N + countN n))
 | .mk k nm' tx as' ks, h, B, R, A, nm, as_, kk, F, p, N, hp, hd, hc, l => by
  rw [fairN] at h;rw [toksN];rw [depthN] at hd;rw [countN] at hc ⊢
  by_cases h1 : k = 1
  ·subst h1;rw [if_pos rfl] at h hd ⊢;simp only [Bool.and_eq_true, decide_eq_true_eq] at h;obtain ⟨⟨⟨hn, htx⟩, ha⟩, hk⟩ := h;subst htx
   by_cases hks : ks.isEmpty = true
   ·rw [if_pos hks];have hks := isEmpty_nil hks;subst hks;rw [countL] at hc ⊢;rw [depthL] at hd;refine ⟨fl kk p ++ [.mk 1 nm' [] as' []], [], by unfold fl; rw [if_pos rfl], fun _ => rfl, ?_⟩;refine run_step ?_;unfold Xt.stepT;rw [if_neg (by simp), if_pos rfl, start_S (by omega) (by simp; omega)]
    show Except.ok (Xt.endT _) = _
    rw [end_S];rfl
   ·rw [if_neg hks];obtain ⟨kk2, p2, g1, g2⟩ := build_L ks 0 hk B R A nm' as' [] (⟨nm, as_, fl kk p⟩ :: F) [] (N + (1 + as'.length)) (fun e => absurd rfl e) (by simp; omega) (by omega) (⟨3, 0, nm', [], []⟩ :: l);refine ⟨fl kk p ++ [.mk 1 nm' [] as' ks], [], by unfold fl; rw [if_pos rfl], fun _ => rfl, ?_⟩;rw [List.cons_append, List.append_assoc, List.singleton_append, run_step (s' := S_ B R A nm' as' [] (⟨nm, as_, fl kk p⟩ :: F) [] (N + (1 + as'.length)))]
    ·rw [g2, run_step (s' := S_ B R A nm as_ (fl kk p ++ [.mk 1 nm' [] as' ks]) F [] (N + (1 + as'.length) + countL ks))]
     ·rw [Nat.add_assoc N]
     ·unfold Xt.stepT;rw [if_neg (by simp), if_neg (by simp), if_pos rfl]
      show (if nm' = nm' then Except.ok (Xt.endT _) else _) = _
      rw [if_pos rfl, end_S, g1];rfl
    ·unfold Xt.stepT;rw [if_pos rfl, start_S (by omega) (by simp; omega)]
  ·rw [if_neg h1] at h hd ⊢
   by_cases h2 : k = 2
   ·subst h2;rw [if_pos rfl] at h ⊢;simp only [Bool.and_eq_true, decide_eq_true_eq] at h;obtain ⟨⟨⟨⟨g1, g2⟩, g3⟩, g4⟩, _⟩ := h;have g1 := isEmpty_nil g1;have g2 := isEmpty_nil g2;subst g1; subst g2; subst g3
    have hp := hp rfl;subst hp;rw [countL] at hc ⊢;refine ⟨kk, tx, by unfold fl; rw [if_neg g4, if_pos rfl]; rfl, fun e => absurd rfl e, ?_⟩;refine run_step ?_;unfold Xt.stepT;rw [if_neg (by simp), if_neg (by simp), if_neg (by simp), if_neg (by simp), if_neg (by simp)];unfold charsT;rw [if_neg (fun e => by cases e), if_pos ⟨rfl, g4⟩, if_neg (by show ¬ 4096 < N + 1; simp at hc; omega)];rfl
   ·rw [if_neg h2] at h ⊢
    by_cases h3 : k = 3
    ·subst h3;rw [if_pos rfl] at h ⊢;simp only [Bool.and_eq_true, decide_eq_true_eq] at h;obtain ⟨⟨⟨⟨⟨g1, g2⟩, g3⟩, _⟩, _⟩, _⟩ := h;have g1 := isEmpty_nil g1;have g2 := isEmpty_nil g2;subst g1; subst g2; subst g3
     rw [countL] at hc ⊢;refine ⟨fl kk p ++ [.mk 3 [] tx [] []], [], by unfold fl; rw [if_pos rfl], fun _ => rfl, ?_⟩;refine run_step ?_;unfold Xt.stepT;rw [if_neg (by simp), if_neg (by simp), if_neg (by simp), if_pos rfl, other_S (by simp at hc; omega)];rfl
    ·rw [if_neg h3] at h ⊢
     by_cases h4 : k = 4
     ·subst h4;rw [if_pos rfl] at h;simp only [Bool.and_eq_true, decide_eq_true_eq] at h;obtain ⟨⟨⟨⟨⟨⟨g1, g2⟩, _⟩, _⟩, _⟩, _⟩, _⟩ := h;have g1 := isEmpty_nil g1;have g2 := isEmpty_nil g2;subst g1; subst g2
      rw [countL] at hc ⊢;refine ⟨fl kk p ++ [.mk 4 nm' tx [] []], [], by unfold fl; rw [if_pos rfl], fun _ => rfl, ?_⟩;refine run_step ?_;unfold Xt.stepT;rw [if_neg (by simp), if_neg (by simp), if_neg (by simp), if_neg (by simp), if_pos rfl, other_S (by simp at hc; omega)];rfl
     ·rw [if_neg h4] at h;cases h
theorem build_L : ∀ (ks : List Nd) (was : Int), fairL was ks = true -> ∀ (B : List Nd) (R : Nd) (A : List Nd) (nm : Tx) (as_ : List At) (kk : List Nd) (F : List Fr) (p : Tx) (N : Nat), (p ≠ [] -> was = 2) -> F.length + 1 + depthL ks <= 32 -> N + countL ks <= 4096 →
  ∀ l, ∃ kk' p', fl kk' p' = fl kk p ++ ks /\ Xt.runT (toksL ks ++ l) (S_ B R A nm as_ kk F p N) = Xt.runT l (S_ B R A nm as_ kk' F p' (N + countL ks))
 | [], _, _, B, R, A, nm, as_, kk, F, p, N, _, _, _, l => ⟨kk, p, by simp, by rw [toksL, countL]; rfl⟩
 | x :: xs, was, h, B, R, A, nm, as_, kk, F, p, N, hp, hd, hc, l => by
  rw [fairL] at h;simp only [Bool.and_eq_true, Bool.not_eq_true', Bool.and_eq_false_iff, decide_eq_false_iff_not] at h;obtain ⟨⟨hx, hw⟩, hxs⟩ := h;rw [depthL] at hd;rw [countL] at hc ⊢;rw [toksL, List.append_assoc]
  obtain ⟨kk1, p1, g1, g2, g3⟩ := build_N x hx B R A nm as_ kk F p N (fun e => by
   refine Classical.byContradiction fun hne => ?_
   rcases hw with hw | hw
   ·exact hw (hp hne)
   ·exact hw e) (by omega) (by omega) (toksL xs ++ l)
  obtain ⟨kk2, p2, q1, q2⟩ := build_L xs x.kind hxs B R A nm as_ kk1 F p1 (N + countN x) (fun e => Classical.byContradiction fun hne => e (g2 hne)) (by omega) (by omega) l;refine ⟨kk2, p2, by rw [q1, g1, List.append_assoc]; rfl, ?_⟩;rw [g3, q2, Nat.add_assoc]
end
theorem misc_one {n : Nd} (hk : n.kind = 3 \/ n.kind = 4) (h : fairN n = true) : ∃ t : Xl.Tok, toksN n = [t] /\ countN n = 1 /\ ((t.kind = 6 /\ n = .mk 3 t.name t.text [] []) \/ (t.kind = 7 /\ n = .mk 4 t.name t.text [] [])) := by
 obtain ⟨k, nm, tx, as_, ks⟩ := n;rw [fairN] at h;rw [toksN, countN];rcases hk with hk | hk
 ·have hk : k = 3 := hk;subst hk;simp only [show ¬ ((3 : Int) = 1) by decide, show ¬ ((3 : Int) = 2) by decide, if_false, if_true, Bool.and_eq_true, decide_eq_true_eq] at h ⊢;obtain ⟨⟨⟨⟨⟨g1, g2⟩, g3⟩, _⟩, _⟩, _⟩ := h;have g1 := isEmpty_nil g1;have g2 := isEmpty_nil g2;subst g1; subst g2; subst g3
  exact ⟨_, rfl, rfl, .inl ⟨rfl, rfl⟩⟩
 ·have hk : k = 4 := hk;subst hk;simp only [show ¬ ((4 : Int) = 1) by decide, show ¬ ((4 : Int) = 2) by decide, show ¬ ((4 : Int) = 3) by decide, if_false, if_true, Bool.and_eq_true, decide_eq_true_eq] at h ⊢;obtain ⟨⟨⟨⟨⟨⟨g1, g2⟩, _⟩, _⟩, _⟩, _⟩, _⟩ := h;have g1 := isEmpty_nil g1;have g2 := isEmpty_nil g2;subst g1; subst g2
  exact ⟨_, rfl, rfl, .inr ⟨rfl, rfl⟩⟩
theorem build_misc {h : Bool} : ∀ (ks : List Nd), miscOk ks = true -> ∀ (B : List Nd) (R : Nd) (A : List Nd) (N : Nat), N + ks.length <= 4096 -> ∀ l,
  Xt.runT (toksL ks ++ l) ⟨B, R, h, A, [], [], N⟩ = Xt.runT l (if h then ⟨B, R, h, A ++ ks, [], [], N + ks.length⟩ else ⟨B ++ ks, R, h, A, [], [], N + ks.length⟩)
 | [], _, B, R, A, N, _, l => by
  rw [toksL]
  cases h <;> simp
 | x :: xs, hm, B, R, A, N, hN, l => by
  rw [miscOk] at hm;simp only [Bool.and_eq_true, Bool.or_eq_true, decide_eq_true_eq] at hm;obtain ⟨⟨hk, hx⟩, hxs⟩ := hm;obtain ⟨t, e1, _, e2⟩ := misc_one hk hx;simp only [List.length_cons] at hN;rw [toksL, e1, List.append_assoc, List.singleton_append]
  have key : Xt.stepT ⟨B, R, h, A, [], [], N⟩ t = .ok (if h then ⟨B, R, h, A ++ [x], [], [], N + 1⟩ else ⟨B ++ [x], R, h, A, [], [], N + 1⟩) := by
   unfold Xt.stepT;rcases e2 with ⟨e2, e3⟩ | ⟨e2, e3⟩
   ·rw [if_neg (by omega), if_neg (by omega), if_neg (by omega), if_pos e2, other_0 (by decide) (by omega), <- e3]
   ·rw [if_neg (by omega), if_neg (by omega), if_neg (by omega), if_neg (by omega), if_pos e2, other_0 (by decide) (by omega), <- e3]
  rw [run_step key]
  cases h with
  | true =>
   simp only [if_true];rw [build_misc xs hxs _ _ _ _ (by omega)];simp only [if_true, List.append_assoc, List.singleton_append, List.length_cons]
   congr 2
   omega
  | false =>
   simp only [Bool.false_eq_true, if_false];rw [build_misc xs hxs _ _ _ _ (by omega)];simp only [Bool.false_eq_true, if_false, List.append_assoc, List.singleton_append, List.length_cons]
   congr 2
   omega
theorem build_root {n : Nd} (hk : n.kind = 1) (h : fairN n = true) (hd : depthN n <= 32) (hc : N + countN n <= 4096) (l : List Xl.Tok) : Xt.runT (toksN n ++ l) ⟨B, R, false, A, [], [], N⟩ = Xt.runT l ⟨B, n, true, A, [], [], N + countN n⟩ := by
 obtain ⟨k, nm, tx, as_, ks⟩ := n;have hk : k = 1 := hk;subst hk;rw [fairN, if_pos rfl] at h;simp only [Bool.and_eq_true, decide_eq_true_eq] at h;obtain ⟨⟨⟨hn, htx⟩, ha⟩, hks⟩ := h;subst htx;rw [depthN, if_pos rfl] at hd;rw [countN] at hc ⊢;rw [toksN, if_pos rfl]
 have st : ∀ t : Xl.Tok, t.name = nm -> t.attrs = as_ -> startT ⟨B, R, false, A, [], [], N⟩ t = .ok (S_ B R A nm as_ [] [] [] (N + (1 + as_.length))) := fun t e1 e2 => by
  unfold startT;rw [if_neg (by simp), if_neg (by rw [e2]; show ¬ 4096 < N + (1 + as_.length); omega), if_neg (fun e => by cases e.2), e1, e2];unfold flush;simp only [if_true];rfl
 by_cases he : ks.isEmpty = true
 ·rw [if_pos he];have he := isEmpty_nil he;subst he;rw [countL];refine run_step ?_;unfold Xt.stepT;rw [if_neg (by simp), if_pos rfl, st _ rfl rfl]
  show Except.ok (Xt.endT _) = _
  rw [end_0];rfl
 ·rw [if_neg he];obtain ⟨kk2, p2, g1, g2⟩ := build_L ks 0 hks B R A nm as_ [] [] [] (N + (1 + as_.length)) (fun e => absurd rfl e) (by simp; omega) (by omega) (⟨3, 0, nm, [], []⟩ :: l);rw [List.cons_append, List.append_assoc, List.singleton_append, run_step (s' := S_ B R A nm as_ [] [] [] (N + (1 + as_.length)))]
  ·rw [g2, run_step (s' := ⟨B, .mk 1 nm [] as_ ks, true, A, [], [], N + (1 + as_.length) + countL ks⟩)]
   ·rw [Nat.add_assoc N]
   ·unfold Xt.stepT;rw [if_neg (by simp), if_neg (by simp), if_pos rfl]
    show (if nm = nm then Except.ok (Xt.endT _) else _) = _
    rw [if_pos rfl, end_0, g1];rfl
  ·unfold Xt.stepT;rw [if_pos rfl, st _ rfl rfl]
end
theorem run_strip : ∀ (l : List Xl.Tok) {s sf : St}, Xt.runT (l.map strip) s = .ok sf -> Xt.runT l s = .ok sf
 | [], s, sf, h => h
 | t :: l, s, sf, h => by
  rw [List.map_cons, Xt.runT] at h;have e : Xt.stepT s (strip t) = Xt.stepT s t := rfl;rw [e] at h;rw [Xt.runT]
  cases hs : Xt.stepT s t with
  | error c => rw [hs] at h; cases h
  | ok s' =>
   rw [hs] at h;exact run_strip l h
theorem miscOk_L : ∀ {ks : List Nd} {was : Int}, miscOk ks = true -> fairL was ks = true
 | [], _, _ => rfl
 | x :: xs, was, h => by
  rw [miscOk] at h;simp only [Bool.and_eq_true, Bool.or_eq_true, decide_eq_true_eq] at h;rw [fairL, h.1.2, miscOk_L h.2];have : x.kind ≠ 2 := by omega
  simp [this]
theorem back {d : Doc} (h : mayD d = true) : ∃ ts, Xl.allF (writeD d) = (0, 0, ts) /\ ∀ len, parseT len ts = (0, 0, d) := by
 unfold mayD at h;simp only [Bool.and_eq_true, decide_eq_true_eq] at h;obtain ⟨⟨⟨⟨⟨⟨hk, hf⟩, hb⟩, ha⟩, hd⟩, hc⟩, hl⟩ := h;have hV : V (writeD d) := V.append (V.append (V_writeL _ 0 (miscOk_L hb)) (V_writeN _ hf)) (V_writeL _ 0 (miscOk_L ha));have hbad : badW (writeD d) 0 < 0 := of_decide_eq_true (V_good hV)
 have hdec : decl (writeD d) = .ok () 0 := by
  unfold writeD;rw [List.append_assoc]
  cases hbe : d.before with
  | nil =>
   rw [writeL, List.nil_append];exact decl_N hf (by omega) _
  | cons x xs =>
   rw [hbe, miscOk] at hb;simp only [Bool.and_eq_true, Bool.or_eq_true, decide_eq_true_eq] at hb;rw [writeL, List.append_assoc];exact decl_N hb.1.2 (by omega) _
 have hR : Reads_ (writeD d) [] (toksL d.before ++ (toksN d.root ++ toksL d.after)) := by
  unfold writeD;rw [List.append_assoc];refine (reads_L _ 0 (miscOk_L hb) _ (.inr ?_)).append ((reads_N _ hf _ (fun e => by omega)).append (reads_L _ 0 (miscOk_L ha) [] (.inl rfl)));obtain ⟨t, ht⟩ := head60 hf (by omega);rw [ht];rfl
 obtain ⟨vs, _, hlen, hrun⟩ := hR;obtain ⟨zs, z1, _, z3⟩ := hrun ((writeD d).length + 1 - vs.length) 0 [];rw [List.append_nil, run_end, show (writeD d).length + 1 - vs.length + vs.length = (writeD d).length + 1 by omega, List.nil_append] at z3;refine ⟨zs, ?_, fun len => ?_⟩
 ·unfold Xl.allF;rw [if_neg (by omega), if_neg (by omega), hdec];simp only [List.drop_zero];exact z3
 ·have hr : Xt.runT zs .start = .ok ⟨d.before, d.root, true, d.after, [], [], 0 + d.before.length + countN d.root + d.after.length⟩ := by
   refine run_strip zs ?_;rw [z1];unfold St.start;rw [build_misc d.before hb [] zero [] 0 (by omega)];simp only [Bool.false_eq_true, if_false, List.nil_append];rw [build_root hk hf hd (by omega)];have := build_misc (h := true) d.after ha d.before d.root [] (0 + d.before.length + countN d.root) (by omega) [];rw [List.append_nil] at this;rw [this];rfl
  unfold parseT;rw [hr];simp
end Go.Proofs.YtokdnhdfmgfkeaaGreatDoor.Xo
end
