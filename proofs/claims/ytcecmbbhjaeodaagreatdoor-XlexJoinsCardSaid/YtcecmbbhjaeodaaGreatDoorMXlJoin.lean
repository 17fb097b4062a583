/- The law XlexJoins, plainly: what is read of a document is read of it with more behind. No program stands here. -/
import Derived.Test.YtcecmbbhjaeodaaGreatDoorMXlValues
namespace Go.Proofs.YtcecmbbhjaeodaaGreatDoor.Xl
open Go.RowKit UtfW Qx

theorem eat_app (y : Tx) : ∀ {t r : Tx} {n : Nat}, eat t r = .ok () n → eat t (r ++ y) = .ok () n
  | [], r, n, h => by
    rw [eat] at h ⊢
    exact h
  | c :: t, [], n, h => by cases h
  | c :: t, b :: r, n, h => by
    rw [eat] at h
    rw [List.cons_append, eat]
    split at h
    · rename_i hb
      rw [if_pos hb]
      obtain ⟨m, hm, rfl⟩ := shift_ok h
      rw [eat_app y hm]
      rfl
    · cases h
theorem hp_app {p r : Tx} (y : Tx) (h : p.length ≤ r.length) : Lib.hasPrefix (r ++ y) p = Lib.hasPrefix r p := by
  rw [Bool.eq_iff_iff]
  have e : ∀ l : Tx, Lib.hasPrefix l p = true ↔ p <+: l := fun l => List.isPrefixOf_iff_prefix
  rw [e, e]
  constructor
  · rintro ⟨x, hx⟩
    have h1 := congrArg (List.take p.length) hx
    rw [List.take_left, List.take_append_of_le_length h] at h1
    exact ⟨r.drop p.length, (congrArg (· ++ r.drop p.length) h1).trans (List.take_append_drop _ _)⟩
  · rintro ⟨x, rfl⟩
    exact ⟨x ++ y, by simp⟩
theorem hp_yes {p r : Tx} (y : Tx) (h : Lib.hasPrefix r p = true) : Lib.hasPrefix (r ++ y) p = true := by
  rw [hp_app y (prefix_len h)]
  exact h
theorem find_app (y : Tx) {t : Tx} : ∀ {r : Tx} {n : Nat}, find t r = some n → find t (r ++ y) = some n
  | [], n, h => by
    rw [find] at h
    split at h
    · rename_i ht
      injection h with h
      subst h; subst ht
      cases y with
      | nil => rfl
      | cons b y => rw [List.nil_append, find, if_pos (by simp [List.isPrefixOf])]
    · cases h
  | b :: r, n, h => by
    have hl := find_len h
    have e : t.isPrefixOf (b :: (r ++ y)) = t.isPrefixOf (b :: r) := hp_app (p := t) (r := b :: r) y (by omega)
    rw [find] at h
    rw [List.cons_append, find, e]
    split at h
    · rename_i hp
      rw [if_pos hp]
      exact h
    · rename_i hp
      rw [if_neg hp]
      cases hf : find t r with
      | none => rw [hf] at h; cases h
      | some m =>
        rw [hf] at h
        rw [find_app y hf]
        exact h
theorem upto_app (y : Tx) {t r x : Tx} {n : Nat} (h : upto t r = .ok x n) : upto t (r ++ y) = .ok x n := by
  unfold upto at h ⊢
  cases hf : find t r with
  | none => rw [hf] at h; cases h
  | some m =>
    rw [hf] at h
    rw [find_app y hf]
    injection h with h1 h2
    obtain ⟨g, _⟩ := find_len hf
    simp only
    rw [List.take_append_of_le_length (by omega), h1, h2]
theorem blanks_app (y : Tx) : ∀ {r : Tx}, blanks r < r.length → blanks (r ++ y) = blanks r
  | [], h => by simp at h
  | c :: t, h => by
    unfold blanks at h ⊢
    rw [List.cons_append, List.takeWhile_cons, List.takeWhile_cons]
    rw [List.takeWhile_cons] at h
    split
    · rename_i hc
      rw [if_pos hc] at h
      simp at h
      have := blanks_app y (r := t) (by unfold blanks; omega)
      unfold blanks at this
      simp [this]
    · rfl
theorem refR_app (y : Tx) {t v : Tx} {n : Nat} (h : refR t = .ok v n) : refR (t ++ y) = .ok v n := by
  unfold refR at h ⊢
  cases hf : find [59] t with
  | none => rw [hf] at h; cases h
  | some m =>
    rw [hf] at h
    rw [find_app y hf]
    obtain ⟨g, _⟩ := find_len hf
    simp only at h ⊢
    rw [List.take_append_of_le_length (by omega)]
    exact h
theorem line_app2 (y : Tx) {r : Tx} (h : 2 ≤ r.length) : line (r ++ y) = line r := by
  unfold line
  rw [hp_app y (by simpa using h)]

/-! ### Names -/
theorem nameF_fuel : ∀ (rs : List Nat) (f g : Nat) (first : Bool), rs.length < f → rs.length < g → (∀ r ∈ rs, Utf.Char (r : Nat) = true) → nameF f first (E rs) = nameF g first (E rs)
  | [], f, g, first, _, _, _ => by
    show nameF f first [] = nameF g first []
    rw [nameF_nil, nameF_nil]
  | r :: rs, 0, g, first, h, _, _ => absurd h (by omega)
  | r :: rs, f + 1, 0, first, _, h, _ => absurd h (by omega)
  | r :: rs, f + 1, g + 1, first, h, h2, hr => by
    have hc := hr r (List.mem_cons_self ..)
    rw [E_cons, nameF_E f first hc, nameF_E g first hc, nameF_fuel rs f g false (by simp at h; omega) (by simp at h2; omega) fun x hx => hr x (List.mem_cons_of_mem _ hx)]
theorem nameF_app (y : Tx) : ∀ (rs : List Nat) (f g : Nat) (first : Bool), rs.length < f → rs.length < g → (∀ r ∈ rs, Utf.Char (r : Nat) = true) → nameF f first (E rs) < (E rs).length → nameF g first (E rs ++ y) = nameF f first (E rs)
  | [], f, g, first, _, _, _, h => by
    simp [E] at h
  | r :: rs, 0, g, first, h, _, _, _ => absurd h (by omega)
  | r :: rs, f + 1, 0, first, _, h, _, _ => absurd h (by omega)
  | r :: rs, f + 1, g + 1, first, h, h2, hr, hlt => by
    have hc := hr r (List.mem_cons_self ..)
    rw [E_cons, nameF_E f first hc] at hlt
    rw [E_cons, List.append_assoc, nameF_E f first hc, nameF_E g first hc]
    split
    · rfl
    · rename_i hg
      rw [if_neg hg, List.length_append] at hlt
      rw [nameF_app y rs f g false (by simp at h; omega) (by simp at h2; omega) (fun x hx => hr x (List.mem_cons_of_mem _ hx)) (by omega)]
theorem nameL_app (y : Tx) {r : Tx} (hv : V r) (h : nameL r < r.length) : nameL (r ++ y) = nameL r := by
  obtain ⟨rs, hr, rfl⟩ := hv
  have hge := E_ge hr
  unfold nameL at h ⊢
  exact nameF_app y rs _ _ true (by omega) (by rw [List.length_append]; omega) hr h
theorem name_app (y : Tx) {r x : Tx} {n : Nat} (hv : V r) (h : name r = .ok x n) (hlt : n < r.length) : name (r ++ y) = .ok x n := by
  obtain ⟨g1, g2, g3, g4⟩ := name_len h
  have e := nameL_app y hv (by omega)
  unfold name
  rw [if_neg (by intro e2; have := congrArg List.length e2; simp at this; have h3 : r = [] := this.1; rw [h3] at hlt; simp at hlt), e, if_neg (by omega), List.take_append_of_le_length (by omega), ← g4, ← g3]

/-! ### Values, characters -/
theorem drop_app {r y : Tx} {n : Nat} (h : n ≤ r.length) : (r ++ y).drop n = r.drop n ++ y := List.drop_append_of_le_length h
theorem valF_app (y : Tx) : ∀ {f g : Nat} {q : UInt8} {r out v : Tx} {n : Nat}, f ≤ g → valF f q r out = .ok v n → valF g q (r ++ y) out = .ok v n
  | 0, g, q, r, out, v, n, _, h => by cases h
  | f + 1, 0, q, r, out, v, n, hg, h => absurd hg (by omega)
  | f + 1, g + 1, q, [], out, v, n, _, h => by cases h
  | f + 1, g + 1, q, c :: t, out, v, n, hg, h => by
    have hg' : f ≤ g := by omega
    rw [valF] at h
    rw [List.cons_append, valF]
    split at h
    · rename_i h1
      rw [if_pos h1]
      exact h
    · rename_i h1
      rw [if_neg h1]
      split at h
      · cases h
      · rename_i h2
        rw [if_neg h2]
        split at h
        · rename_i h3
          rw [if_pos h3]
          cases hr : refR t with
          | bad e o => rw [hr] at h; cases h
          | ok u m =>
            rw [hr] at h
            rw [refR_app y hr]
            obtain ⟨p, hp, rfl⟩ := shift_ok h
            have g1 := refR_len hr
            simp only
            rw [← List.cons_append, drop_app (by simp; omega), valF_app y hg' hp]
            rfl
        · rename_i h3
          rw [if_neg h3]
          split at h
          · rename_i h4
            rw [if_pos h4]
            obtain ⟨p, hp, rfl⟩ := shift_ok h
            have g1 := line_len (c := c) t
            have g2 := valF_len hp
            rw [List.length_drop] at g2
            rw [← List.cons_append, line_app2 y (by omega), drop_app g1.2, valF_app y hg' hp]
            rfl
          · rename_i h4
            rw [if_neg h4]
            obtain ⟨p, hp, rfl⟩ := shift_ok h
            rw [valF_app y hg' hp]
            rfl
theorem value_app (y : Tx) {r v : Tx} {n : Nat} (h : value r = .ok v n) : value (r ++ y) = .ok v n := by
  cases r with
  | nil => cases h
  | cons q t =>
    rw [value] at h
    rw [List.cons_append, value]
    split at h
    · rename_i h1
      rw [if_pos h1]
      obtain ⟨p, hp, rfl⟩ := shift_ok h
      rw [valF_app y (by simp) hp]
      rfl
    · cases h
theorem textF_has : ∀ {f : Nat} {r out v : Tx} {n : Nat}, textF f r out = .ok v n → n < r.length → 60 ∈ r := by
  intro f r out v n h hlt
  rcases textF_end h with h1 | h1
  · have := congrArg List.length h1
    rw [List.length_drop] at this
    simp at this
    omega
  · exact List.mem_of_mem_drop (List.mem_of_head? h1)
theorem textF_app (y : Tx) : ∀ {f g : Nat} {r out v : Tx} {n : Nat}, f ≤ g → textF f r out = .ok v n → n < r.length → textF g (r ++ y) out = .ok v n
  | 0, g, r, out, v, n, _, h, _ => by cases h
  | f + 1, 0, r, out, v, n, hg, h, _ => absurd hg (by omega)
  | f + 1, g + 1, [], out, v, n, _, h, hlt => by simp at hlt
  | f + 1, g + 1, c :: t, out, v, n, hg, h, hlt => by
    have hg' : f ≤ g := by omega
    have h60 := textF_has h hlt
    rw [textF] at h
    rw [List.cons_append, textF]
    split at h
    · rename_i h1
      rw [if_pos h1]
      exact h
    · rename_i h1
      rw [if_neg h1]
      split at h
      · rename_i h2
        rw [if_pos h2]
        cases hr : refR t with
        | bad e o => rw [hr] at h; cases h
        | ok u m =>
          rw [hr] at h
          rw [refR_app y hr]
          obtain ⟨p, hp, rfl⟩ := shift_ok h
          have g1 := refR_len hr
          simp only
          rw [← List.cons_append, drop_app (by simp; omega), textF_app y hg' hp (by rw [List.length_drop]; simp at hlt ⊢; omega)]
          rfl
      · rename_i h2
        rw [if_neg h2]
        split at h
        · rename_i h3
          rw [if_pos h3]
          obtain ⟨p, hp, rfl⟩ := shift_ok h
          have g1 := line_len (c := c) t
          rw [← List.cons_append, line_app2 y (by omega), drop_app g1.2, textF_app y hg' hp (by rw [List.length_drop]; omega)]
          rfl
        · rename_i h3
          rw [if_neg h3]
          split at h
          · cases h
          · rename_i h4
            have h5 : Lib.hasPrefix (c :: (t ++ y)) [93, 93, 62] = false := by
              cases hp : Lib.hasPrefix (c :: (t ++ y)) [93, 93, 62] with
              | false => rfl
              | true =>
                exfalso
                rcases Nat.lt_or_ge (c :: t).length 3 with g3 | g3
                · obtain ⟨x, hx⟩ := hp_cut hp
                  rw [← List.cons_append] at hx
                  have h6 := congrArg (List.take (c :: t).length) hx
                  rw [List.take_left, List.take_append_of_le_length (by simp at g3 ⊢; omega)] at h6
                  rw [h6] at h60
                  have := List.mem_of_mem_take h60
                  revert this
                  decide
                · have := hp_app (p := [93, 93, 62]) (r := c :: t) y g3
                  rw [List.cons_append, hp] at this
                  exact h4 this.symm
            rw [h5]
            obtain ⟨p, hp, rfl⟩ := shift_ok h
            simp only [Bool.false_eq_true, if_false]
            rw [textF_app y hg' hp (by simp at hlt; omega)]
            rfl

/-! ### Tags -/
theorem attr_app (y : Tx) {there : List At} {r : Tx} {a : At} {n : Nat} (hv : V r) (h : attr there r = .ok a n) : attr there (r ++ y) = .ok a n := by
  unfold attr at h ⊢
  cases hn : name r with
  | bad c o => rw [hn] at h; cases h
  | ok nm n1 =>
    rw [hn] at h
    simp only at h
    obtain ⟨g1, g2, _, _⟩ := name_len hn
    split at h
    · cases h
    · rename_i hthere
      cases he : eat [61] (r.drop (n1 + blanks (r.drop n1))) with
      | bad c o => rw [he] at h; cases h
      | ok u m =>
        rw [he] at h
        simp only at h
        obtain ⟨g3, g4⟩ := eat_len he
        rw [List.length_drop] at g4
        simp at g3
        subst g3
        have hb1 : blanks ((r ++ y).drop n1) = blanks (r.drop n1) := by rw [drop_app g2]; exact blanks_app y (by rw [List.length_drop]; omega)
        cases hval : value (r.drop (n1 + blanks (r.drop n1) + 1 + blanks (r.drop (n1 + blanks (r.drop n1) + 1)))) with
        | bad c o => rw [hval] at h; cases h
        | ok v n2 =>
          rw [hval] at h
          have g5 := value_len hval
          rw [List.length_drop] at g5
          have hb2 : blanks ((r ++ y).drop (n1 + blanks (r.drop n1) + 1)) = blanks (r.drop (n1 + blanks (r.drop n1) + 1)) := by rw [drop_app (by omega)]; exact blanks_app y (by rw [List.length_drop]; omega)
          rw [name_app y hv hn (by omega)]
          simp only
          rw [if_neg hthere, hb1, drop_app (by omega), eat_app y he]
          simp only
          rw [hb2, drop_app (by omega), value_app y hval]
          exact h
theorem tagF_app (y : Tx) : ∀ {f g : Nat} {r : Tx} {ats : List At} {v : Bool × List At} {n : Nat}, f ≤ g → V r → tagF f r ats = .ok v n → tagF g (r ++ y) ats = .ok v n
  | 0, g, r, ats, v, n, _, _, h => by cases h
  | f + 1, 0, r, ats, v, n, hg, _, h => absurd hg (by omega)
  | f + 1, g + 1, r, ats, v, n, hg, hv, h => by
    have hg' : f ≤ g := by omega
    have hb := blanks_V hv
    have hbl := blanks_le r
    cases hd : r.drop (blanks r) with
    | nil => rw [tagF_nil f ats hd] at h; cases h
    | cons c t =>
      have hlt : blanks r < r.length := by
        have := congrArg List.length hd
        rw [List.length_drop] at this
        simp at this
        omega
      have hbe := blanks_app y hlt
      have hd2 : (r ++ y).drop (blanks (r ++ y)) = c :: (t ++ y) := by rw [hbe, drop_app (by omega), hd]; rfl
      rw [hd] at hb
      rw [tagF_cons f ats hd] at h
      rw [tagF_cons g ats hd2, hbe]
      by_cases h1 : c = 62
      · rw [if_pos h1] at h ⊢
        exact h
      · rw [if_neg h1] at h ⊢
        by_cases h2 : c = 47
        · rw [if_pos h2] at h ⊢
          cases he : eat [47, 62] (c :: t) with
          | bad e o => rw [he] at h; cases h
          | ok u m =>
            rw [he] at h
            have := eat_app y he
            rw [List.cons_append] at this
            rw [this]
            exact h
        · rw [if_neg h2] at h ⊢
          by_cases h3 : blanks r = 0
          · rw [if_pos h3] at h; cases h
          · rw [if_neg h3] at h ⊢
            cases hat : attr ats (c :: t) with
            | bad e o => rw [hat] at h; cases h
            | ok a m =>
              rw [hat] at h
              have := attr_app y hb hat
              rw [List.cons_append] at this
              rw [this]
              obtain ⟨p, hp, rfl⟩ := shift_ok h
              obtain ⟨_, g2⟩ := attr_V hb hat
              have g1 := attr_len hat
              simp only
              rw [← List.cons_append, drop_app g1.2, tagF_app y hg' g2 hp]
              rfl
theorem tag_app (y : Tx) {r : Tx} {t : Tok} {n : Nat} (hr : 1 ≤ r.length) (hv : V (r.drop 1)) (h : tag r = .ok t n) : tag (r ++ y) = .ok t n := by
  unfold tag at h ⊢
  cases hn : name (r.drop 1) with
  | bad c o => rw [hn] at h; cases h
  | ok nm m =>
    rw [hn] at h
    simp only at h
    obtain ⟨g1, g2, _, _⟩ := name_len hn
    rw [List.length_drop] at g2
    obtain ⟨_, _, g3⟩ := name_V hv hn
    rw [List.drop_drop] at g3
    cases ht : tagF (r.length + 1) (r.drop (1 + m)) [] with
    | bad c o => rw [ht] at h; cases h
    | ok ea p =>
      rw [ht] at h
      have g4 := tagF_len ht
      rw [List.length_drop] at g4
      rw [drop_app hr, name_app y hv hn (by rw [List.length_drop]; omega)]
      simp only
      rw [drop_app (by omega), tagF_app y (by rw [List.length_append]; omega) g3 ht]
      exact h
theorem instr_app (y : Tx) {r : Tx} {t : Tok} {n : Nat} (hr : 2 ≤ r.length) (hv : V (r.drop 2)) (h : instr r = .ok t n) : instr (r ++ y) = .ok t n := by
  have hlen := (instr_len h).2
  unfold instr at h ⊢
  cases hn : name (r.drop 2) with
  | bad c o => rw [hn] at h; cases h
  | ok nm m =>
    rw [hn] at h
    simp only at h
    obtain ⟨g1, g2, _, _⟩ := name_len hn
    rw [List.length_drop] at g2
    split at h
    · cases h
    · rename_i hx
      have hb0 := blanks_le (r.drop (2 + m))
      rw [List.length_drop] at hb0
      split at h
      · rename_i h0
        cases he : eat [63, 62] (r.drop (2 + m)) with
        | bad c o => rw [he] at h; cases h
        | ok u p =>
          rw [he] at h
          obtain ⟨g3, g4⟩ := eat_len he
          rw [List.length_drop] at g4
          simp at g3
          have hb : blanks ((r ++ y).drop (2 + m)) = blanks (r.drop (2 + m)) := by rw [drop_app (by omega)]; exact blanks_app y (by rw [List.length_drop]; omega)
          rw [drop_app hr, name_app y hv hn (by rw [List.length_drop]; omega)]
          simp only
          rw [if_neg hx, if_pos (by rw [hb]; exact h0), drop_app (by omega), eat_app y he]
          exact h
      · rename_i h0
        cases hu : upto [63, 62] (r.drop (2 + m + blanks (r.drop (2 + m)))) with
        | bad c o => rw [hu] at h; cases h
        | ok x p =>
          rw [hu] at h
          obtain ⟨g3, g4, _⟩ := upto_len hu
          rw [List.length_drop] at g3
          simp at g4
          have hb : blanks ((r ++ y).drop (2 + m)) = blanks (r.drop (2 + m)) := by rw [drop_app (by omega)]; exact blanks_app y (by rw [List.length_drop]; omega)
          rw [drop_app hr, name_app y hv hn (by rw [List.length_drop]; omega)]
          simp only
          rw [if_neg hx, if_neg (by rw [hb]; exact h0), hb, drop_app (by omega), upto_app y hu]
          exact h
theorem comment_app (y : Tx) {r : Tx} {t : Tok} {n : Nat} (hr : 4 ≤ r.length) (h : comment r = .ok t n) : comment (r ++ y) = .ok t n := by
  unfold comment at h ⊢
  cases hu : upto [45, 45] (r.drop 4) with
  | bad c o => rw [hu] at h; cases h
  | ok x m =>
    rw [hu] at h
    obtain ⟨g3, _, _⟩ := upto_len hu
    rw [List.length_drop] at g3
    rw [drop_app hr, upto_app y hu]
    simp only at h ⊢
    rw [drop_app (by omega)]
    cases hd : r.drop (4 + m) with
    | nil => rw [hd] at h; cases h
    | cons c s =>
      rw [hd] at h
      exact h
theorem cdata_app (y : Tx) {r : Tx} {t : Tok} {n : Nat} (hr : 9 ≤ r.length) (h : cdata r = .ok t n) : cdata (r ++ y) = .ok t n := by
  unfold cdata at h ⊢
  cases hu : upto [93, 93, 62] (r.drop 9) with
  | bad c o => rw [hu] at h; cases h
  | ok x m =>
    rw [hu] at h
    rw [drop_app hr, upto_app y hu]
    exact h
theorem endT_app (y : Tx) {r : Tx} {t : Tok} {n : Nat} (hr : 2 ≤ r.length) (hv : V (r.drop 2)) (h : endT r = .ok t n) : endT (r ++ y) = .ok t n := by
  unfold endT at h ⊢
  cases hn : name (r.drop 2) with
  | bad c o => rw [hn] at h; cases h
  | ok nm m =>
    rw [hn] at h
    simp only at h
    obtain ⟨g1, g2, _, _⟩ := name_len hn
    rw [List.length_drop] at g2
    cases he : eat [62] (r.drop (2 + m + blanks (r.drop (2 + m)))) with
    | bad c o => rw [he] at h; cases h
    | ok u p =>
      rw [he] at h
      obtain ⟨g3, g4⟩ := eat_len he
      rw [List.length_drop] at g4
      simp at g3
      have hb : blanks ((r ++ y).drop (2 + m)) = blanks (r.drop (2 + m)) := by rw [drop_app (by omega)]; exact blanks_app y (by rw [List.length_drop]; omega)
      rw [drop_app hr, name_app y hv hn (by rw [List.length_drop]; omega)]
      simp only
      rw [hb, drop_app (by omega), eat_app y he]
      exact h
theorem mark_app (y : Tx) {r : Tx} {t : Tok} {n : Nat} (h : mark r = .ok t n) : mark (r ++ y) = .ok t n := by
  unfold mark at h ⊢
  split at h
  · rename_i hp
    rw [if_pos (hp_yes y hp)]
    exact comment_app y (prefix_len hp) h
  · rename_i hp
    split at h
    · rename_i hp2
      have hl := prefix_len hp2
      have : cdT.length = 9 := rfl
      have h4 : cmT.length = 4 := rfl
      rw [if_neg (by rw [hp_app y (by omega)]; exact hp), if_pos (hp_yes y hp2)]
      exact cdata_app y (by omega) h
    · split at h <;> cases h
theorem chars_app (y : Tx) {r : Tx} {t : Tok} {n : Nat} (h : chars r = .ok t n) (hlt : n < r.length) : chars (r ++ y) = .ok t n := by
  unfold chars at h ⊢
  cases ht : textF (r.length + 1) r [] with
  | bad c o => rw [ht] at h; cases h
  | ok x m =>
    rw [ht] at h
    injection h with h1 h2
    rw [textF_app y (by rw [List.length_append]; omega) ht (by omega)]
    simp only
    rw [h1, h2]
theorem token_app (y : Tx) {r : Tx} {t : Tok} {n : Nat} (hv : V r) (h0 : r ≠ []) (h : token r = .ok t n) (hk : t.kind = 4 → n < r.length) : token (r ++ y) = .ok t n := by
  have hV := token_V hv h
  have hh : (r ++ y).head? = r.head? := by
    cases r with
    | nil => exact absurd rfl h0
    | cons c s => rfl
  unfold token at h ⊢
  rw [hh]
  split at h
  · rename_i h1
    rw [if_pos h1]
    exact chars_app y h (hk (hV.2.2.2 h1))
  · rename_i h1
    rw [if_neg h1]
    have hv1 : V (r.drop 1) := by
      obtain ⟨s, rfl⟩ := head_60 h1
      exact hv.tail (by decide)
    split at h
    · rename_i hp
      rw [if_pos (hp_yes y hp)]
      exact mark_app y h
    · rename_i hp
      split at h
      · rename_i hp2
        have hl := prefix_len hp2
        simp at hl
        rw [if_neg (by rw [hp_app y (by simpa using hl)]; exact hp), if_pos (hp_yes y hp2)]
        exact instr_app y hl (V.past hv hp2 (by decide)) h
      · rename_i hp2
        split at h
        · rename_i hp3
          have hl := prefix_len hp3
          simp at hl
          rw [if_neg (by rw [hp_app y (by simpa using hl)]; exact hp), if_neg (by rw [hp_app y (by simpa using hl)]; exact hp2), if_pos (hp_yes y hp3)]
          exact endT_app y hl (V.past hv hp3 (by decide)) h
        · rename_i hp3
          have hl : 2 ≤ r.length := by
            unfold tag at h
            cases hn : name (r.drop 1) with
            | bad c o => rw [hn] at h; cases h
            | ok nm m =>
              obtain ⟨g1, g2, _, _⟩ := name_len hn
              rw [List.length_drop] at g2
              omega
          rw [if_neg (by rw [hp_app y (by simpa using hl)]; exact hp), if_neg (by rw [hp_app y (by simpa using hl)]; exact hp2), if_neg (by rw [hp_app y (by simpa using hl)]; exact hp3)]
          exact tag_app y (by omega) hv1 h

/-! ### All tokens -/
theorem runF_ext : ∀ {f : Nat} {r : Tx} {k p : Nat} {ts us : List Tok}, runF f r k ts = (0, p, us) → us ≠ [] → ∃ zs, us = ts ++ zs
  | 0, r, k, p, ts, us, h, _ => by
    injection h with _ h
    injection h with _ h
    exact ⟨[], by rw [h, List.append_nil]⟩
  | f + 1, r, k, p, ts, us, h, hne => by
    rw [runF] at h
    split at h
    · injection h with _ h
      injection h with _ h
      exact ⟨[], by rw [h, List.append_nil]⟩
    · cases ht : token r with
      | bad c o =>
        rw [ht] at h
        injection h with _ h
        injection h with _ h
        exact absurd h.symm hne
      | ok t n =>
        rw [ht] at h
        obtain ⟨zs, hz⟩ := runF_ext h hne
        exact ⟨{ t with at_ := k } :: zs, by rw [hz]; simp⟩
theorem runF_app (y : Tx) : ∀ {f g : Nat} {r : Tx} {k p : Nat} {ts us : List Tok}, V r → r.length < f → (r ++ y).length < g → runF f r k ts = (0, p, us) → us ≠ [] → (r ≠ [] → ∀ t, us.getLast? = some t → t.kind ≠ 4) →
    ∃ g', y.length < g' ∧ runF g (r ++ y) k ts = runF g' y (k + r.length) us
  | 0, g, r, k, p, ts, us, _, hf, _, _, _, _ => absurd hf (by omega)
  | f + 1, g, r, k, p, ts, us, hv, hf, hg, h, hne, hl => by
    rw [runF] at h
    split at h
    · rename_i h0
      injection h with _ h
      injection h with _ h
      subst h0; subst h
      exact ⟨g, by simpa using hg, rfl⟩
    · rename_i h0
      cases ht : token r with
      | bad c o =>
        rw [ht] at h
        injection h with _ h
        injection h with _ h
        exact absurd h.symm hne
      | ok t n =>
        rw [ht] at h
        obtain ⟨g1, g2⟩ := token_len ht h0
        obtain ⟨_, g3, _⟩ := token_V hv ht
        have hk : t.kind = 4 → n < r.length := fun e => by
          rcases Nat.lt_or_ge n r.length with g | g
          · exact g
          · exfalso
            have hd : r.drop n = [] := List.drop_eq_nil_of_le g
            simp only at h
            rw [hd] at h
            cases f with
            | zero => have := List.length_pos_iff.2 h0; omega
            | succ f =>
              rw [runF, if_pos rfl] at h
              injection h with _ h
              injection h with _ h
              exact hl h0 { t with at_ := k } (by rw [← h]; simp) e
        have ha := token_app y hv h0 ht hk
        obtain ⟨g', rfl⟩ : ∃ g', g = g' + 1 := ⟨g - 1, by omega⟩
        obtain ⟨g4, h4, h5⟩ := runF_app y (f := f) (g := g') g3 (by rw [List.length_drop]; omega) (by rw [List.length_append, List.length_drop]; rw [List.length_append] at hg; omega) h hne (fun _ => hl h0)
        refine ⟨g4, h4, ?_⟩
        rw [runF, if_neg (by intro e; have := congrArg List.length e; simp at this; exact h0 this.1), ha]
        simp only
        rw [drop_app g2, h5, List.length_drop]
        congr 1
        omega
/-- Tokens further on. -/
def moved (k : Nat) (ts : List Tok) : List Tok := ts.map fun t => { t with at_ := t.at_ + k }
theorem run_moved : ∀ {f g : Nat} {r : Tx} {j p : Nat} (k : Nat) {ts us zs : List Tok}, V r → r.length < f → r.length < g → runF f r j ts = (0, p, zs) → (zs ≠ [] ∨ r = []) → ∃ y, zs = ts ++ y ∧ runF g r (j + k) us = (0, 0, us ++ moved k y)
  | 0, g, r, j, p, k, ts, us, zs, _, hf, _, _, _ => absurd hf (by omega)
  | f + 1, 0, r, j, p, k, ts, us, zs, _, _, hg, _, _ => absurd hg (by omega)
  | f + 1, g + 1, r, j, p, k, ts, us, zs, hv, hf, hg, h, hne => by
    rw [runF] at h
    rw [runF]
    split at h
    · rename_i h0
      injection h with _ h
      injection h with _ h
      rw [if_pos h0]
      exact ⟨[], by rw [h, List.append_nil], by simp [moved]⟩
    · rename_i h0
      rw [if_neg h0]
      have hz : zs ≠ [] := hne.elim id fun e => absurd e h0
      cases ht : token r with
      | bad c o =>
        rw [ht] at h
        injection h with _ h
        injection h with _ h
        exact absurd h.symm hz
      | ok t n =>
        rw [ht] at h
        obtain ⟨g1, g2⟩ := token_len ht h0
        obtain ⟨_, g3, _⟩ := token_V hv ht
        obtain ⟨y, h1, h2⟩ := run_moved (f := f) (g := g) (us := us ++ [{ t with at_ := j + k }]) k g3 (by rw [List.length_drop]; omega) (by rw [List.length_drop]; omega) h (.inl hz)
        refine ⟨{ t with at_ := j } :: y, by rw [h1]; simp, ?_⟩
        simp only
        rw [show j + k + n = j + n + k by omega, h2]
        simp [moved]
theorem decl_app {a : Tx} (b : Tx) {n : Nat} (hv : V a) (h : decl a = .ok () n) (h5 : 5 ≤ a.length ∨ (a ++ b).take 5 ≠ xmlT) : decl (a ++ b) = .ok () n := by
  unfold decl at h ⊢
  by_cases hp : Lib.hasPrefix a xmlT = true
  · have hl := prefix_len hp
    have e5 : xmlT.length = 5 := rfl
    have hv5 : V (a.drop 5) := V.past hv hp (by decide)
    rw [hp_yes b hp, drop_app (by omega)]
    rw [hp] at h
    by_cases hg : GoesOn (nx (a.drop 5) 0).1 = false
    · rw [if_pos ⟨rfl, hg⟩] at h
      cases hu : upto [63, 62] (a.drop 5) with
      | bad c o => rw [hu] at h; cases h
      | ok x m =>
        rw [hu] at h
        obtain ⟨g1, g2, _⟩ := upto_len hu
        have hne : a.drop 5 ≠ [] := by
          intro e
          rw [e] at g1
          simp at g1 g2
          omega
        have hnx : (nx (a.drop 5 ++ b) 0).1 = (nx (a.drop 5) 0).1 := by
          obtain ⟨rs, hr, e⟩ := hv5
          cases rs with
          | nil => exact absurd e hne
          | cons r rs =>
            have hc := hr r (List.mem_cons_self ..)
            rw [e, E_cons, List.append_assoc, nx_E hc, nx_E hc]
        rw [hnx, if_pos ⟨rfl, hg⟩, upto_app b hu]
        exact h
    · rw [if_neg (fun e => hg e.2)] at h
      have hne : a.drop 5 ≠ [] := by
        intro e
        rw [e] at hg
        exact hg (by decide)
      have hnx : (nx (a.drop 5 ++ b) 0).1 = (nx (a.drop 5) 0).1 := by
        obtain ⟨rs, hr, e⟩ := hv5
        cases rs with
        | nil => exact absurd e hne
        | cons r rs =>
          have hc := hr r (List.mem_cons_self ..)
          rw [e, E_cons, List.append_assoc, nx_E hc, nx_E hc]
      rw [hnx, if_neg (fun e => hg e.2)]
      exact h
  · rw [if_neg (fun e => hp e.1)] at h
    rw [if_neg]
    · exact h
    · rintro ⟨hp2, _⟩
      rcases h5 with h5 | h5
      · rw [hp_app b (show xmlT.length ≤ a.length from h5)] at hp2
        exact hp hp2
      · obtain ⟨x, hx⟩ := hp_cut hp2
        refine h5 ?_
        rw [hx]
        rfl
/-- THE LAW XlexJoins. -/
theorem joins {a b : Tx} {x y : List Tok} {p q : Nat} (ha : a.length ≤ 4096) (hb : b.length ≤ 4096) (h1 : allF a = (0, p, x)) (h2 : allF b = (0, q, y)) (hx : x ≠ []) (hl : ∀ t, x.getLast? = some t → t.kind ≠ 4) (hx5 : Lib.hasPrefix b xmlT = false) (hy : y ≠ [] ∨ b = []) :
    ∃ p', allF (a ++ b) = (0, p', x ++ moved a.length y) := by
  unfold allF at h1 h2
  rw [if_neg (by omega)] at h1 h2
  split at h1
  · cases h1
  · rename_i hba
    split at h2
    · cases h2
    · rename_i hbb
      have hva : V a := V_of_bad (by omega)
      have hvb : V b := V_of_bad (by omega)
      have hdb : decl b = .ok () 0 := by
        unfold decl
        rw [if_neg (fun e => by rw [hx5] at e; cases e.1)]
      rw [hdb] at h2
      cases hda : decl a with
      | bad c o =>
        rw [hda] at h1
        injection h1 with _ h1
        injection h1 with _ h1
        exact absurd h1.symm hx
      | ok u n =>
        rw [hda] at h1
        have hn := decl_len hda
        have h5 : 5 ≤ a.length ∨ (a ++ b).take 5 ≠ xmlT := by
          rcases Nat.lt_or_ge a.length 5 with g | g
          · right
            intro e
            have e2 : a = xmlT.take a.length := by
              have := congrArg (List.take a.length) e
              rw [List.take_take, Nat.min_eq_left (by omega), List.take_left] at this
              exact this
            have bad : ∀ k : Fin 5, (allF (xmlT.take k.val)).1 ≠ 0 ∨ (allF (xmlT.take k.val)).2.2 = [] := by decide +kernel
            have h6 := bad ⟨a.length, g⟩
            simp only at h6
            rw [← e2] at h6
            have h7 : allF a = (0, p, x) := by
              unfold allF
              rw [if_neg (by omega), if_neg hba, hda]
              exact h1
            rw [h7] at h6
            rcases h6 with h6 | h6
            · exact h6 rfl
            · exact hx h6
          · exact .inl g
        have hdab := decl_app b hva hda h5
        have hvd := decl_V hva hda
        have hbad : badW (a ++ b) 0 = -1 := badW_V (hva.append hvb)
        unfold allF
        rw [if_neg (by rw [List.length_append]; omega), if_neg (by omega), hdab]
        simp only at h1 h2 ⊢
        rw [drop_app hn]
        obtain ⟨g', hg', he⟩ := runF_app b (f := a.length + 1) (g := (a ++ b).length + 1) hvd (by rw [List.length_drop]; omega) (by rw [List.length_append, List.length_drop, List.length_append]; omega) h1 hx (fun _ => hl)
        rw [he]
        rw [List.drop_zero] at h2
        obtain ⟨y', e1, e2⟩ := run_moved (f := b.length + 1) (g := g') (us := x) a.length hvb (by omega) hg' h2 hy
        rw [List.nil_append] at e1
        subst e1
        refine ⟨0, ?_⟩
        rw [← e2, List.length_drop]
        congr 1
        omega

/-! ### What is wrong has a code -/
theorem name_code {r : Tx} {c : Int} {o : Nat} (h : name r = .bad c o) : c ≠ 0 := by
  unfold name at h
  split at h
  · injection h with h _; rw [← h]; decide
  · split at h
    · injection h with h _; rw [← h]; decide
    · cases h
theorem eat_code {t r : Tx} {c : Int} {o : Nat} (h : eat t r = .bad c o) : c ≠ 0 := by
  obtain ⟨_, h1, _⟩ := eat_bad h
  rcases h1 with rfl | rfl <;> decide
theorem upto_code {t r : Tx} {c : Int} {o : Nat} (h : upto t r = .bad c o) : c ≠ 0 := by
  unfold upto at h
  split at h
  · injection h with h _; rw [← h]; decide
  · cases h
theorem refR_code {t : Tx} {c : Int} {o : Nat} (h : refR t = .bad c o) : c ≠ 0 := by
  unfold refR at h
  split at h
  · injection h with h _; rw [← h]; decide
  · split at h
    · injection h with h _; rw [← h]; decide
    · cases h
theorem valF_code : ∀ {f : Nat} {q : UInt8} {r out : Tx} {c : Int} {o : Nat}, valF f q r out = .bad c o → c ≠ 0
  | 0, q, r, out, c, o, h => by injection h with h _; rw [← h]; decide
  | f + 1, q, [], out, c, o, h => by injection h with h _; rw [← h]; decide
  | f + 1, q, x :: t, out, c, o, h => by
    rw [valF] at h
    split at h
    · cases h
    · split at h
      · injection h with h _; rw [← h]; decide
      · split at h
        · cases hr : refR t with
          | bad e p =>
            rw [hr] at h
            injection h with h _
            rw [← h]
            exact refR_code hr
          | ok u m =>
            rw [hr] at h
            obtain ⟨p, hp, _⟩ := shift_bad h
            exact valF_code hp
        · split at h
          · obtain ⟨p, hp, _⟩ := shift_bad h
            exact valF_code hp
          · obtain ⟨p, hp, _⟩ := shift_bad h
            exact valF_code hp
theorem value_code {r : Tx} {c : Int} {o : Nat} (h : value r = .bad c o) : c ≠ 0 := by
  cases r with
  | nil => injection h with h _; rw [← h]; decide
  | cons q t =>
    rw [value] at h
    split at h
    · obtain ⟨p, hp, _⟩ := shift_bad h
      exact valF_code hp
    · injection h with h _; rw [← h]; decide
theorem textF_code : ∀ {f : Nat} {r out : Tx} {c : Int} {o : Nat}, textF f r out = .bad c o → c ≠ 0
  | 0, r, out, c, o, h => by injection h with h _; rw [← h]; decide
  | f + 1, [], out, c, o, h => by cases h
  | f + 1, x :: t, out, c, o, h => by
    rw [textF] at h
    split at h
    · cases h
    · split at h
      · cases hr : refR t with
        | bad e p =>
          rw [hr] at h
          injection h with h _
          rw [← h]
          exact refR_code hr
        | ok u m =>
          rw [hr] at h
          obtain ⟨p, hp, _⟩ := shift_bad h
          exact textF_code hp
      · split at h
        · obtain ⟨p, hp, _⟩ := shift_bad h
          exact textF_code hp
        · split at h
          · injection h with h _; rw [← h]; decide
          · obtain ⟨p, hp, _⟩ := shift_bad h
            exact textF_code hp
theorem attr_code {there : List At} {r : Tx} {c : Int} {o : Nat} (h : attr there r = .bad c o) : c ≠ 0 := by
  unfold attr at h
  cases hn : name r with
  | bad d p =>
    rw [hn] at h
    injection h with h _
    rw [← h]
    exact name_code hn
  | ok nm n1 =>
    rw [hn] at h
    simp only at h
    split at h
    · injection h with h _; rw [← h]; decide
    · split at h
      · rename_i he
        injection h with h _
        rw [← h]
        exact eat_code he
      · split at h
        · rename_i he
          injection h with h _
          rw [← h]
          exact value_code he
        · cases h
theorem tagF_code : ∀ {f : Nat} {r : Tx} {ats : List At} {c : Int} {o : Nat}, tagF f r ats = .bad c o → c ≠ 0
  | 0, r, ats, c, o, h => by injection h with h _; rw [← h]; decide
  | f + 1, r, ats, c, o, h => by
    cases hd : r.drop (blanks r) with
    | nil =>
      rw [tagF_nil f ats hd] at h
      injection h with h _; rw [← h]; decide
    | cons x t =>
      rw [tagF_cons f ats hd] at h
      by_cases h1 : x = 62
      · rw [if_pos h1] at h; cases h
      · rw [if_neg h1] at h
        by_cases h2 : x = 47
        · rw [if_pos h2] at h
          cases he : eat [47, 62] (x :: t) with
          | bad e p =>
            rw [he] at h
            injection h with h _
            rw [← h]
            exact eat_code he
          | ok u m => rw [he] at h; cases h
        · rw [if_neg h2] at h
          by_cases h3 : blanks r = 0
          · rw [if_pos h3] at h
            injection h with h _; rw [← h]; decide
          · rw [if_neg h3] at h
            cases ha : attr ats (x :: t) with
            | bad e p =>
              rw [ha] at h
              injection h with h _
              rw [← h]
              exact attr_code ha
            | ok a m =>
              rw [ha] at h
              obtain ⟨p, hp, _⟩ := shift_bad h
              exact tagF_code hp
theorem token_code {r : Tx} {c : Int} {o : Nat} (h : token r = .bad c o) : c ≠ 0 := by
  unfold token at h
  split at h
  · unfold chars at h
    split at h
    · rename_i he
      injection h with h _
      rw [← h]
      exact textF_code he
    · cases h
  · split at h
    · unfold mark at h
      split at h
      · unfold comment at h
        split at h
        · rename_i he
          injection h with h _
          rw [← h]
          exact upto_code he
        · split at h
          · injection h with h _; rw [← h]; decide
          · split at h
            · cases h
            · injection h with h _; rw [← h]; decide
      · split at h
        · unfold cdata at h
          split at h
          · rename_i he
            injection h with h _
            rw [← h]
            exact upto_code he
          · cases h
        · split at h
          · injection h with h _; rw [← h]; decide
          · injection h with h _; rw [← h]; decide
    · split at h
      · unfold instr at h
        split at h
        · rename_i he
          injection h with h _
          rw [← h]
          exact name_code he
        · split at h
          · injection h with h _; rw [← h]; decide
          · split at h
            · split at h
              · rename_i he
                injection h with h _
                rw [← h]
                exact eat_code he
              · cases h
            · split at h
              · rename_i he
                injection h with h _
                rw [← h]
                exact upto_code he
              · cases h
      · split at h
        · unfold endT at h
          split at h
          · rename_i he
            injection h with h _
            rw [← h]
            exact name_code he
          · split at h
            · rename_i he
              injection h with h _
              rw [← h]
              exact eat_code he
            · cases h
        · unfold tag at h
          split at h
          · rename_i he
            injection h with h _
            rw [← h]
            exact name_code he
          · split at h
            · rename_i he
              injection h with h _
              rw [← h]
              exact tagF_code he
            · cases h
theorem run_ge : ∀ {f : Nat} {r : Tx} {k p : Nat} {ts us : List Tok}, runF f r k ts = (0, p, us) → ts.length ≤ us.length
  | 0, r, k, p, ts, us, h => by
    injection h with _ h
    injection h with _ h
    rw [h]
    exact Nat.le_refl _
  | f + 1, r, k, p, ts, us, h => by
    rw [runF] at h
    split at h
    · injection h with _ h
      injection h with _ h
      rw [h]
      exact Nat.le_refl _
    · cases ht : token r with
      | bad c o =>
        rw [ht] at h
        injection h with h _
        exact absurd h (token_code ht)
      | ok t n =>
        rw [ht] at h
        have := run_ge h
        simp at this
        omega
theorem run_some {f : Nat} {r : Tx} {k p : Nat} {us : List Tok} (hf : r.length < f) (h : runF f r k [] = (0, p, us)) : us ≠ [] ∨ r = [] := by
  cases f with
  | zero => exact absurd hf (by omega)
  | succ f =>
    rw [runF] at h
    split at h
    · rename_i h0
      exact .inr h0
    · cases ht : token r with
      | bad c o =>
        rw [ht] at h
        injection h with h _
        exact absurd h (token_code ht)
      | ok t n =>
        rw [ht] at h
        have := run_ge h
        refine .inl fun e => ?_
        rw [e] at this
        simp at this
/-- What stands behind a first document is never nothing. -/
theorem all_some {b : Tx} {q : Nat} {y : List Tok} (hb : b.length ≤ 65536) (h : allF b = (0, q, y)) (h5 : Lib.hasPrefix b xmlT = false) : y ≠ [] ∨ b = [] := by
  unfold allF at h
  rw [if_neg (by omega)] at h
  split at h
  · cases h
  · have hdb : decl b = .ok () 0 := by
      unfold decl
      rw [if_neg (fun e => by rw [h5] at e; cases e.1)]
    rw [hdb] at h
    simp only [List.drop_zero] at h
    exact run_some (by omega) h
end Go.Proofs.YtcecmbbhjaeodaaGreatDoor.Xl
