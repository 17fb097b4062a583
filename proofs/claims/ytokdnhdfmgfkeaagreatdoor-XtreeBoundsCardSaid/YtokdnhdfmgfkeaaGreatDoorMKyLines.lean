/- The plain law KeysLines: empty lines, remarks, blanks around lines. No program stands here. -/
import Derived.Test.YtokdnhdfmgfkeaaGreatDoorMKyMath
section
namespace Go.Proofs.YtokdnhdfmgfkeaaGreatDoor.Ky

/-- A byte that may stand in a name. -/
def okb (b : UInt8) : Bool := !([47, 123, 125, 44, 32, 9, 10, 13, 35, 64].contains b)
/-- What is known of names. -/
def Names (nm : Tx → Bool) : Prop := ∀ s, nm s = true → s ≠ [] ∧ ∀ b ∈ s, okb b = true

theorem ok_ne {b : UInt8} (h : okb b = true) : b ≠ 47 ∧ b ≠ 123 ∧ b ≠ 125 ∧ b ≠ 44 ∧ b ≠ 10 ∧ b ≠ 35 ∧ b ≠ 64 ∧ b ≠ 13 ∧ blank b = false := by
  unfold okb at h
  simp only [List.contains_cons, List.contains_nil, Bool.or_false, Bool.not_eq_true', Bool.or_eq_false_iff, beq_eq_false_iff_ne] at h
  obtain ⟨h1, h2, h3, h4, h5, h6, h7, h8, h9, h10⟩ := h
  refine ⟨h1, h2, h3, h4, h7, h9, h10, h8, ?_⟩
  unfold blank
  simp [h5, h6, h7, h8]

/-- A byte of a key. -/
def keyb (b : UInt8) : Bool := b == 47 || b == 64 || b == 46 || okb b
theorem keyb_ne {b : UInt8} (h : keyb b = true) : b ≠ 123 ∧ b ≠ 125 ∧ b ≠ 44 ∧ b ≠ 10 ∧ b ≠ 35 ∧ b ≠ 13 ∧ blank b = false := by
  unfold keyb at h
  simp only [Bool.or_eq_true, beq_iff_eq] at h
  rcases h with ((rfl | rfl) | rfl) | h
  · decide
  · decide
  · decide
  · have := ok_ne h
    exact ⟨this.2.1, this.2.2.1, this.2.2.2.1, this.2.2.2.2.1, this.2.2.2.2.2.1, this.2.2.2.2.2.2.2.1, this.2.2.2.2.2.2.2.2⟩

theorem join_split (c : UInt8) : ∀ s, join [c] (split c s) = s
  | [] => rfl
  | b :: s => by
    rw [split_cons]
    have ih := join_split c s
    cases hs : split c s with
    | nil => exact absurd hs (split_ne c s)
    | cons x r =>
      rw [hs] at ih
      split
      · rename_i hb
        show [] ++ [c] ++ join [c] (x :: r) = _
        rw [ih, hb]
        rfl
      · cases r with
        | nil =>
          show b :: x = _
          rw [← ih]
          rfl
        | cons y r =>
          show (b :: x) ++ [c] ++ join [c] (y :: r) = _
          rw [← ih]
          rfl
theorem mem_join {sep : Tx} {b : UInt8} : ∀ {l : List Tx}, b ∈ join sep l → (∃ x ∈ l, b ∈ x) ∨ b ∈ sep
  | [], h => by cases h
  | [x], h => .inl ⟨x, List.mem_cons_self .., h⟩
  | x :: y :: r, h => by
    have h' : b ∈ x ++ sep ++ join sep (y :: r) := h
    rw [List.append_assoc, List.mem_append, List.mem_append] at h'
    rcases h' with h' | h' | h'
    · exact .inl ⟨x, List.mem_cons_self .., h'⟩
    · exact .inr h'
    · rcases mem_join h' with ⟨z, hz, hb⟩ | hb
      · exact .inl ⟨z, List.mem_cons_of_mem _ hz, hb⟩
      · exact .inr hb
theorem join_ne {sep : Tx} : ∀ {l : List Tx}, l ≠ [] → (∀ x ∈ l, x ≠ []) → join sep l ≠ []
  | [], h, _ => absurd rfl h
  | [x], _, h => h x (List.mem_cons_self ..)
  | x :: y :: r, _, h => by
    show x ++ sep ++ join sep (y :: r) ≠ []
    intro e
    have := List.append_eq_nil_iff.1 (List.append_eq_nil_iff.1 e).1
    exact h x (List.mem_cons_self ..) this.1
theorem last_mem {b : UInt8} {s : Tx} (h : s.getLast? = some b) : b ∈ s := List.mem_of_getLast? h
theorem head_mem {b : UInt8} {s : Tx} (h : s.head? = some b) : b ∈ s := List.mem_of_head? h

theorem trims_key {k : Tx} (h : k ≠ [] ∧ ∀ b ∈ k, keyb b = true) {a : Tx} (ha : ∀ b ∈ a, blank b = true) : trim (a ++ k) = k := by
  have := trim_around (a := a) (c := []) (s := k) ha (fun b h => by cases h) (fun b hb => (keyb_ne (h.2 b (head_mem hb))).2.2.2.2.2.2) (fun b hb => (keyb_ne (h.2 b (last_mem hb))).2.2.2.2.2.2)
  simpa using this
theorem text_trim (r : Rl) {a c : Tx} (ha : ∀ b ∈ a, blank b = true) (hc : ∀ b ∈ c, blank b = true) : trim (a ++ textL r ++ c) = textL r :=
  trim_around ha hc (fun b hb => by unfold textL at hb; simp at hb; subst hb; decide) (fun b hb => by unfold textL at hb; rw [List.getLast?_concat] at hb; injection hb with hb; subst hb; decide)

theorem keys_back {l : List Tx} : l ≠ [] → (∀ k ∈ l, k ≠ [] ∧ ∀ b ∈ k, keyb b = true) → ∀ {a : Tx}, (∀ b ∈ a, blank b = true) → (split 44 (a ++ join [44, 32] l)).map trim = l := by
  induction l with
  | nil => intro h; exact absurd rfl h
  | cons k r ih =>
    intro _ hk a ha
    have hno : (44 : UInt8) ∉ a ++ k := fun h => by
      rcases List.mem_append.1 h with h | h
      · have := ha _ h
        exact absurd this (by decide)
      · exact (keyb_ne ((hk k (List.mem_cons_self ..)).2 _ h)).2.2.1 rfl
    cases r with
    | nil =>
      show (split 44 (a ++ k)).map trim = [k]
      rw [split_none hno, List.map_singleton, trims_key (hk k (List.mem_cons_self ..)) ha]
    | cons y r =>
      show (split 44 (a ++ (k ++ [44, 32] ++ join [44, 32] (y :: r)))).map trim = _
      rw [show a ++ (k ++ [44, 32] ++ join [44, 32] (y :: r)) = (a ++ k) ++ 44 :: ([32] ++ join [44, 32] (y :: r)) by simp, split_cut hno, List.map_cons, trims_key (hk k (List.mem_cons_self ..)) ha,
        ih (by simp) (fun z hz => hk z (List.mem_cons_of_mem _ hz)) (a := [32]) (fun b hb => by rw [List.mem_singleton.1 hb]; decide)]

theorem strip_ways (x : Tx) : (∃ r, x = 64 :: r ∧ strip x = r) ∨ strip x = x := by
  unfold strip
  split
  · exact .inl ⟨_, rfl, rfl⟩
  · exact .inr rfl

section
variable {nm : Tx → Bool} (hn : Names nm)
include hn
theorem key_bytes {s : Tx} (h : keyB nm s = true) : s ≠ [] ∧ ∀ b ∈ s, keyb b = true := by
  unfold keyB at h
  rw [Bool.or_eq_true, decide_eq_true_eq, Bool.and_eq_true, List.all_eq_true] at h
  rcases h with rfl | ⟨h1, h2⟩
  · exact ⟨by simp, fun b hb => by rw [List.mem_singleton.1 hb]; decide⟩
  · have hj := join_split 47 s
    have hne := split_ne 47 s
    generalize split 47 s = l at *
    have hlast : ∀ x, l.getLast? = some x → x ≠ [] ∧ ∀ b ∈ x, keyb b = true := by
      intro x hx
      rw [hx, Option.getD_some] at h2
      obtain ⟨g1, g2⟩ := hn _ h2
      have hk : ∀ b ∈ strip x, keyb b = true := fun b hb => by unfold keyb; rw [g2 b hb]; simp
      rcases strip_ways x with ⟨r, rfl, e⟩ | e
      · rw [e] at hk
        refine ⟨by simp, fun b hb => ?_⟩
        rcases List.mem_cons.1 hb with rfl | hb
        · decide
        · exact hk b hb
      · rw [e] at g1 hk
        exact ⟨g1, hk⟩
    have hall : ∀ x ∈ l, x ≠ [] ∧ ∀ b ∈ x, keyb b = true := by
      intro x hx
      obtain ⟨y, hy⟩ : ∃ y, l.getLast? = some y := by
        cases hl : l.getLast? with
        | none => rw [List.getLast?_eq_none_iff] at hl; exact absurd hl hne
        | some y => exact ⟨y, rfl⟩
      have hd : l = l.dropLast ++ [y] := by
        rw [List.getLast?_eq_some_iff] at hy
        obtain ⟨t, rfl⟩ := hy
        simp
      rw [hd] at hx
      rcases List.mem_append.1 hx with hx | hx
      · obtain ⟨g1, g2⟩ := hn _ (h1 x hx)
        exact ⟨g1, fun b hb => by unfold keyb; rw [g2 b hb]; simp⟩
      · rw [List.mem_singleton.1 hx]
        exact hlast y hy
    refine ⟨by rw [← hj]; exact join_ne hne fun x hx => (hall x hx).1, fun b hb => ?_⟩
    rw [← hj] at hb
    rcases mem_join hb with ⟨x, hx, hb⟩ | hb
    · exact (hall x hx).2 b hb
    · rw [List.mem_singleton.1 hb]
      decide

theorem rule_facts {r : Rl} (h : ruleB nm r = true) : r.1 ≠ [] ∧ (∀ x ∈ r.1, x ≠ [] ∧ ∀ b ∈ x, okb b = true) ∧ ∀ k ∈ r.2, k ≠ [] ∧ ∀ b ∈ k, keyb b = true := by
  unfold ruleB at h
  rw [Bool.and_eq_true, Bool.and_eq_true, Bool.and_eq_true, decide_eq_true_eq, List.all_eq_true, List.all_eq_true] at h
  obtain ⟨⟨h1, _⟩, h2, h3, _⟩ := h
  exact ⟨List.length_pos_iff.1 h1, fun x hx => hn x (h2 x hx), fun k hk => key_bytes hn (h3 k hk)⟩

/-- A rule's line is read as it. -/
theorem line_back {r : Rl} (h : ruleB nm r = true) : lineR nm (textL r) = some r := by
  obtain ⟨h1, h2, h3⟩ := rule_facts hn h
  have hp : ∀ b ∈ join [47] r.1, b = 47 ∨ okb b = true := fun b hb => by
    rcases mem_join hb with ⟨x, hx, hb⟩ | hb
    · exact .inr ((h2 x hx).2 b hb)
    · exact .inl (List.mem_singleton.1 hb)
  have hform : textL r = (47 :: join [47] r.1 ++ [32]) ++ 123 :: (join [44, 32] r.2 ++ [125]) := by
    unfold textL
    simp
  have hno : (123 : UInt8) ∉ 47 :: join [47] r.1 ++ [32] := fun hm => by
    rcases List.mem_append.1 hm with hm | hm
    · rcases List.mem_cons.1 hm with hm | hm
      · exact absurd hm (by decide)
      · rcases hp _ hm with e | e
        · exact absurd e (by decide)
        · exact absurd e (by decide)
    · exact absurd (List.mem_singleton.1 hm) (by decide)
  unfold lineR
  rw [hform, cut_at hno]
  simp only
  rw [if_pos (by simp)]
  have hlast : ∀ b, (47 :: join [47] r.1).getLast? = some b → blank b = false := fun b hb => by
    rcases List.mem_cons.1 (last_mem hb) with rfl | hm
    · decide
    · rcases hp _ hm with rfl | e
      · decide
      · exact (ok_ne e).2.2.2.2.2.2.2.2
  have ht : trim (47 :: join [47] r.1 ++ [32]) = 47 :: join [47] r.1 := by
    have := trim_around (a := []) (c := [32]) (s := 47 :: join [47] r.1) (fun b h => by cases h) (fun b hb => by rw [List.mem_singleton.1 hb]; decide) (fun b hb => by simp at hb; subst hb; decide) hlast
    simpa using this
  rw [ht]
  simp only
  rw [split_join h1 fun x hx hm => absurd ((h2 x hx).2 _ hm) (by decide), List.dropLast_concat]
  have hk : (if trim (join [44, 32] r.2) = [] then [] else (split 44 (trim (join [44, 32] r.2))).map trim) = r.2 := by
    cases hr : r.2 with
    | nil => rfl
    | cons k l =>
      rw [← hr]
      have hne : r.2 ≠ [] := by rw [hr]; simp
      have hj : join [44, 32] r.2 ≠ [] := join_ne hne fun x hx => (h3 x hx).1
      have hmem : ∀ b ∈ join [44, 32] r.2, keyb b = true ∨ b ∈ ([44, 32] : Tx) := fun b hb => by
        rcases mem_join hb with ⟨x, hx, hb⟩ | hb
        · exact .inl ((h3 x hx).2 b hb)
        · exact .inr hb
      have hhd : ∀ b, (join [44, 32] r.2).head? = some b → blank b = false := fun b hb => by
        have hk1 := h3 k (by rw [hr]; exact List.mem_cons_self ..)
        have : b ∈ k := by
          rw [hr] at hb
          cases l with
          | nil => exact head_mem hb
          | cons y l =>
            have hb' : (k ++ [44, 32] ++ join [44, 32] (y :: l)).head? = some b := hb
            cases k with
            | nil => exact absurd rfl hk1.1
            | cons c k =>
              simp at hb'
              subst hb'
              exact List.mem_cons_self ..
        exact (keyb_ne (hk1.2 b this)).2.2.2.2.2.2
      have hla : ∀ b, (join [44, 32] r.2).getLast? = some b → blank b = false := by
        have : ∀ (l : List Tx), l ≠ [] → (∀ k ∈ l, k ≠ [] ∧ ∀ b ∈ k, keyb b = true) → ∀ b, (join [44, 32] l).getLast? = some b → blank b = false := by
          intro l
          induction l with
          | nil => intro h; exact absurd rfl h
          | cons x l ih =>
            intro _ hx b hb
            cases l with
            | nil => exact (keyb_ne ((hx x (List.mem_cons_self ..)).2 b (last_mem hb))).2.2.2.2.2.2
            | cons y l =>
              have hne2 : join [44, 32] (y :: l) ≠ [] := join_ne (by simp) fun z hz => (hx z (List.mem_cons_of_mem _ hz)).1
              have hb' : (x ++ [44, 32] ++ join [44, 32] (y :: l)).getLast? = some b := hb
              rw [List.getLast?_append] at hb'
              cases hl : (join [44, 32] (y :: l)).getLast? with
              | none => rw [List.getLast?_eq_none_iff] at hl; exact absurd hl hne2
              | some c =>
                rw [hl] at hb'
                simp at hb'
                subst hb'
                exact ih (by simp) (fun z hz => hx z (List.mem_cons_of_mem _ hz)) _ hl
        exact this r.2 hne h3
      have htk := trim_keep hhd hla
      rw [htk, if_neg hj]
      have := keys_back hne h3 (a := []) (fun b h => by cases h)
      simpa using this
  rw [hk]
  unfold ruleO
  rw [if_pos h]

theorem text_bytes {r : Rl} (h : ruleB nm r = true) : ∀ b ∈ textL r, b ≠ 10 ∧ b ≠ 13 := by
  obtain ⟨_, h2, h3⟩ := rule_facts hn h
  intro b hb
  unfold textL at hb
  rw [List.mem_append, List.mem_append] at hb
  rcases hb with (hb | hb) | hb
  · rcases List.mem_cons.1 hb with rfl | hb
    · decide
    · rcases mem_join hb with ⟨x, hx, hb⟩ | hb
      · have := ok_ne ((h2 x hx).2 b hb)
        exact ⟨this.2.2.2.2.1, this.2.2.2.2.2.2.2.1⟩
      · rw [List.mem_singleton.1 hb]; decide
  · rcases List.mem_cons.1 hb with rfl | hb
    · decide
    rcases List.mem_cons.1 hb with rfl | hb
    · decide
    rcases mem_join hb with ⟨x, hx, hb⟩ | hb
    · have := keyb_ne ((h3 x hx).2 b hb)
      exact ⟨this.2.2.2.1, this.2.2.2.2.2.1⟩
    · simp at hb
      rcases hb with rfl | rfl <;> decide
  · rw [List.mem_singleton.1 hb]; decide
/-- Lines that show rules, others that are passed over between them. -/
def shows (s : Tx) : Bool := !(decide (trim s = []) || decide ((trim s).head? = some 35))
theorem parse_shows : ∀ {ps : List Tx} {n : Nat} {out l : List Rl}, (ps.filter shows).map trim = l.map textL → mayP nm out l = true → out.length + l.length ≤ 64 → out ++ l ≠ [] → parseL nm ps n out = (out ++ l, 0, 0)
  | [], n, out, l, h, _, _, hne => by
    have : l = [] := by
      cases l with
      | nil => rfl
      | cons r l => simp at h
    subst this
    rw [List.append_nil] at hne ⊢
    unfold parseL
    rw [if_neg hne]
  | s :: ps, n, out, l, h, hm, hl, hne => by
    unfold parseL
    by_cases hs : shows s = true
    · have hno : ¬(trim s = [] ∨ (trim s).head? = some 35) := fun e => by
        unfold shows at hs
        rcases e with e | e <;> simp [e] at hs
      rw [if_neg hno]
      rw [List.filter_cons, if_pos hs, List.map_cons] at h
      cases l with
      | nil => simp at h
      | cons r l =>
        rw [List.map_cons] at h
        injection h with h1 h2
        rw [mayP, Bool.and_eq_true, Bool.and_eq_true] at hm
        obtain ⟨⟨m1, m2⟩, m3⟩ := hm
        rw [h1, line_back hn m1]
        simp only
        rw [if_neg (by simp at hl; omega), if_pos m2, parse_shows h2 m3 (by simp at hl ⊢; omega) (by simp), List.append_assoc, List.singleton_append]
    · have hyes : trim s = [] ∨ (trim s).head? = some 35 := by
        unfold shows at hs
        exact Classical.or_iff_not_imp_left.2 (by simpa using hs)
      rw [if_pos hyes]
      rw [List.filter_cons, if_neg hs] at h
      exact parse_shows h hm hl hne

/-! ### What is written is read -/
theorem split_text {l : List Rl} (h : ∀ r ∈ l, ruleB nm r = true) : split 10 (textR l) = l.map textL ++ [[]] := by
  induction l with
  | nil => rfl
  | cons r l ih =>
    have e : textR (r :: l) = textL r ++ 10 :: textR l := by simp [textR]
    rw [e, split_cut (fun hm => (text_bytes hn (h r (List.mem_cons_self ..)) _ hm).1 rfl), ih fun x hx => h x (List.mem_cons_of_mem _ hx)]
    rfl
omit hn in
theorem text_self (r : Rl) : trim (textL r) = textL r ∧ shows (textL r) = true := by
  have h := text_trim r (a := []) (c := []) (fun b h => by cases h) (fun b h => by cases h)
  rw [List.nil_append, List.append_nil] at h
  refine ⟨h, ?_⟩
  unfold shows
  rw [h]
  simp [textL]
omit hn in
theorem mayP_rules : ∀ {l acc : List Rl}, mayP nm acc l = true → ∀ r ∈ l, ruleB nm r = true
  | [], _, _, r, hr => by cases hr
  | x :: l, acc, h, r, hr => by
    rw [mayP, Bool.and_eq_true, Bool.and_eq_true] at h
    rcases List.mem_cons.1 hr with rfl | hr
    · exact h.1.1
    · exact mayP_rules h.2 r hr
/-- THE LAW KeysBack: what is written is read as it. -/
theorem back {l : List Rl} (h : mayB nm l = true) : parseL nm (split 10 (textR l)) 0 [] = (l, 0, 0) := by
  unfold mayB at h
  rw [Bool.and_eq_true, decide_eq_true_eq] at h
  have hne : ([] : List Rl) ++ l ≠ [] := by
    intro e
    rw [List.nil_append] at e
    rw [e] at h
    simp at h
  rw [split_text hn (mayP_rules h.2), parse_shows hn (l := l) ?_ h.2 (by simp; omega) hne, List.nil_append]
  have hf : (l.map textL).filter shows = l.map textL := by
    rw [List.filter_eq_self]
    intro t ht
    obtain ⟨r, _, rfl⟩ := List.mem_map.1 ht
    exact (text_self r).2
  rw [List.filter_append, hf, show [([] : Tx)].filter shows = [] from by decide, List.append_nil, List.map_map]
  exact List.map_congr_left fun r _ => (text_self r).1
omit hn in
theorem may_less {l : List Rl} (h : mayB nm l = true) : mayB nm l.dropLast = decide (1 < l.length) := by
  unfold mayB at h
  rw [Bool.and_eq_true, decide_eq_true_eq] at h
  obtain ⟨h1, h2⟩ := h
  have hd : l = l.dropLast ++ [l.getLast (by intro e; rw [e] at h1; simp at h1)] := (List.dropLast_concat_getLast _).symm
  rw [hd, mayP_append, Bool.and_eq_true] at h2
  unfold mayB
  rw [h2.1, Bool.and_true, List.length_dropLast, Bool.eq_iff_iff, decide_eq_true_eq, decide_eq_true_eq]
  omega

/-! ### Frontiers -/
omit hn in
theorem has_iff {l : List Rl} {p : List Tx} : hasB l p = true ↔ ∃ r ∈ l, r.1 = p := by
  unfold hasB
  rw [List.any_eq_true]
  exact ⟨fun ⟨r, h1, h2⟩ => ⟨r, h1, of_decide_eq_true h2⟩, fun ⟨r, h1, h2⟩ => ⟨r, h1, decide_eq_true h2⟩⟩
omit hn in
theorem mayP_above : ∀ {l acc : List Rl}, mayP nm acc l = true → ∀ r ∈ l, r.1.length ≠ 1 → hasB (acc ++ l) r.1.dropLast = true
  | [], _, _, r, hr => by cases hr
  | x :: l, acc, h, r, hr => by
    rw [mayP, Bool.and_eq_true, Bool.and_eq_true] at h
    intro h1
    rcases List.mem_cons.1 hr with rfl | hr
    · have hp := h.1.2
      unfold placedB at hp
      rw [if_neg h1, Bool.and_eq_true] at hp
      obtain ⟨y, hy, e⟩ := has_iff.1 hp.2
      exact has_iff.2 ⟨y, List.mem_append_left _ hy, e⟩
    · have := mayP_above h.2 r hr h1
      rwa [List.append_assoc, List.singleton_append] at this
omit hn in
/-- Each rule's ancestors are there. -/
theorem above_there {l : List Rl} (h : mayP nm [] l = true) : ∀ (k : Nat) (r : Rl), r ∈ l → ∀ n, r.1.length = n + 1 + k → ∃ x ∈ l, x.1 = r.1.take (n + 1)
  | 0, r, hr, n, hk => ⟨r, hr, by rw [List.take_of_length_le (by omega)]⟩
  | k + 1, r, hr, n, hk => by
    have hp := mayP_above h r hr (by omega)
    rw [List.nil_append] at hp
    obtain ⟨y, hy, e⟩ := has_iff.1 hp
    obtain ⟨x, hx, e2⟩ := above_there h k y hy n (by rw [e, List.length_dropLast]; omega)
    refine ⟨x, hx, ?_⟩
    rw [e2, e, List.dropLast_eq_take, List.take_take, Nat.min_eq_left (by omega)]
omit hn in
/-- THE LAW KeysFrontiers. -/
theorem front {l : List Rl} (h : mayB nm l = true) {r : Rl} (hr : r ∈ l) : frontB l r.1 = !(l.any fun x => decide (x.1.length = r.1.length + 1 ∧ x.1.take r.1.length = r.1)) := by
  unfold mayB at h
  rw [Bool.and_eq_true] at h
  unfold frontB
  rw [has_iff.2 ⟨r, hr, rfl⟩, Bool.true_and]
  congr 1
  rw [Bool.eq_iff_iff, List.any_eq_true, List.any_eq_true]
  constructor
  · rintro ⟨x, hx, hd⟩
    have hd := of_decide_eq_true hd
    obtain ⟨y, hy, e⟩ := above_there h.2 (x.1.length - r.1.length - 1) x hx r.1.length (by omega)
    refine ⟨y, hy, decide_eq_true ⟨by rw [e, List.length_take]; omega, by rw [e, List.take_take, Nat.min_eq_left (by omega)]; exact hd.2⟩⟩
  · rintro ⟨x, hx, hd⟩
    have hd := of_decide_eq_true hd
    exact ⟨x, hx, decide_eq_true ⟨by omega, hd.2⟩⟩
omit hn in
theorem front_none {l : List Rl} {p : List Tx} (h : hasB l p = false) : frontB l p = false := by
  unfold frontB
  rw [h]
  rfl
end
end Go.Proofs.YtokdnhdfmgfkeaaGreatDoor.Ky
end

section
namespace Go.Proofs.YtokdnhdfmgfkeaaGreatDoor.Ky

/-- Ends of lines turned. -/
def lns : Tx → Tx
  | [] => []
  | b :: t => if b = 13 then (if t.head? = some 10 then lns t else 10 :: lns t) else b :: lns t
theorem lns_keep : ∀ {a : Tx}, 13 ∉ a → ∀ s, lns (a ++ s) = a ++ lns s
  | [], _, _ => rfl
  | b :: a, h, s => by
    rw [List.mem_cons, not_or] at h
    rw [List.cons_append, List.cons_append]
    show (if b = 13 then _ else b :: lns (a ++ s)) = _
    rw [if_neg (fun e => h.1 e.symm), lns_keep h.2 s]
theorem lns_turn (s : Tx) : lns (13 :: 10 :: s) = 10 :: lns s := by simp [lns]

/-- "# a remark" -/
def remark : Tx := [35, 32, 97, 32, 114, 101, 109, 97, 114, 107]
/-- Lines that are passed over. -/
def idle : Nat → Tx
  | 0 => []
  | k + 1 => [32, 10, 35, 120, 10] ++ idle k
def decoR (k : Nat) : List Rl → Tx
  | [] => []
  | r :: l => idle k ++ ([32, 9] ++ textL r ++ [32, 13, 10]) ++ decoR k l
def deco (k : Nat) (l : List Rl) : Tx := remark ++ [13, 10] ++ decoR k l

theorem idle_no : ∀ k, 13 ∉ idle k
  | 0 => by simp [idle]
  | k + 1 => by
    intro h
    rcases List.mem_append.1 h with h | h
    · exact absurd h (by decide)
    · exact idle_no k h
theorem split_idle (s : Tx) : ∀ k, split 10 (idle k ++ s) = (List.replicate k [[32], [35, 120]]).flatten ++ split 10 s
  | 0 => rfl
  | k + 1 => by
    show split 10 (([32, 10, 35, 120, 10] ++ idle k) ++ s) = _
    rw [show ([32, 10, 35, 120, 10] ++ idle k) ++ s = [32] ++ 10 :: ([35, 120] ++ 10 :: (idle k ++ s)) by simp, split_cut (by decide), split_cut (by decide), split_idle s k, List.replicate_succ, List.flatten_cons]
    rfl
theorem idle_shows : ∀ k, ((List.replicate k [[32], [35, 120]]).flatten : List Tx).filter shows = []
  | 0 => rfl
  | k + 1 => by
    rw [List.replicate_succ, List.flatten_cons, List.filter_append, idle_shows k]
    decide

section
variable {nm : Tx → Bool} (hn : Names nm)
include hn
theorem deco_rows (k : Nat) : ∀ {l : List Rl}, (∀ r ∈ l, ruleB nm r = true) → ∃ ps, split 10 (lns (decoR k l)) = ps ++ [[]] ∧ (ps.filter shows).map trim = l.map textL
  | [], _ => ⟨[], rfl, rfl⟩
  | r :: l, h => by
    obtain ⟨ps, e1, e2⟩ := deco_rows k (l := l) fun x hx => h x (List.mem_cons_of_mem _ hx)
    have ht := text_bytes hn (h r (List.mem_cons_self ..))
    have hno : (13 : UInt8) ∉ idle k ++ ([32, 9] ++ textL r ++ [32]) := fun hm => by
      rcases List.mem_append.1 hm with hm | hm
      · exact idle_no k hm
      · rcases List.mem_append.1 hm with hm | hm
        · rcases List.mem_append.1 hm with hm | hm
          · exact absurd hm (by decide)
          · exact (ht _ hm).2 rfl
        · exact absurd hm (by decide)
    have hno2 : (10 : UInt8) ∉ [32, 9] ++ textL r ++ [32] := fun hm => by
      rcases List.mem_append.1 hm with hm | hm
      · rcases List.mem_append.1 hm with hm | hm
        · exact absurd hm (by decide)
        · exact (ht _ hm).1 rfl
      · exact absurd hm (by decide)
    refine ⟨(List.replicate k [[32], [35, 120]]).flatten ++ ([32, 9] ++ textL r ++ [32]) :: ps, ?_, ?_⟩
    · have e : decoR k (r :: l) = (idle k ++ ([32, 9] ++ textL r ++ [32])) ++ 13 :: 10 :: decoR k l := by
        show idle k ++ ([32, 9] ++ textL r ++ [32, 13, 10]) ++ decoR k l = _
        simp
      rw [e, lns_keep hno, lns_turn, List.append_assoc (idle k), split_idle, split_cut hno2, e1]
      simp
    · have htr := text_trim r (a := [32, 9]) (c := [32]) (fun b hb => by simp at hb; rcases hb with rfl | rfl <;> decide) (fun b hb => by rw [List.mem_singleton.1 hb]; decide)
      have hsh : shows ([32, 9] ++ textL r ++ [32]) = true := by
        unfold shows
        rw [htr]
        simp [textL]
      rw [List.filter_append, idle_shows, List.nil_append, List.filter_cons, if_pos hsh, List.map_cons, htr, e2, List.map_cons]
/-- THE LAW KeysLines. -/
theorem lines_law (k : Nat) {l : List Rl} (h : mayB nm l = true) : parseL nm (split 10 (lns (deco k l))) 0 [] = (l, 0, 0) := by
  have h' := h
  unfold mayB at h'
  rw [Bool.and_eq_true, decide_eq_true_eq] at h'
  have hne : ([] : List Rl) ++ l ≠ [] := by
    intro e
    rw [List.nil_append] at e
    rw [e] at h'
    simp at h'
  obtain ⟨ps, e1, e2⟩ := deco_rows hn k (mayP_rules h'.2)
  have e : lns (deco k l) = remark ++ 10 :: lns (decoR k l) := by
    unfold deco
    rw [List.append_assoc, lns_keep (by decide)]
    show remark ++ lns (13 :: 10 :: decoR k l) = _
    rw [lns_turn]
  rw [e, split_cut (by decide), e1, parse_shows hn (l := l) ?_ h'.2 (by simp; omega) hne, List.nil_append]
  rw [List.filter_cons, if_neg (show ¬ shows remark = true by decide), List.filter_append, show [([] : Tx)].filter shows = [] from by decide, List.append_nil, e2]
end
end Go.Proofs.YtokdnhdfmgfkeaaGreatDoor.Ky
end
