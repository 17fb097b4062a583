/- The builder's tree is the document's forest. No program stands here. -/
import Derived.Test.YtokdnhdfmgfkeaaGreatDoorMXlValues
import Derived.Test.YtokdnhdfmgfkeaaGreatDoorMXnP
section
namespace Go.Proofs.YtokdnhdfmgfkeaaGreatDoor.Xo
open Go.RowKit UtfW Qx Xl Xt

/-- A character as it is written. -/
def esc1 (value : Bool) (c : UInt8) : Tx :=
  if c = 38 then [38, 97, 109, 112, 59]
  else if c = 60 then [38, 108, 116, 59]
  else if c = 13 then [38, 35, 49, 51, 59]
  else if c = 62 ∧ value = false then [38, 103, 116, 59]
  else if c = 34 ∧ value = true then [38, 113, 117, 111, 116, 59]
  else if c = 9 ∧ value = true then [38, 35, 57, 59]
  else if c = 10 ∧ value = true then [38, 35, 49, 48, 59]
  else [c]
def esc (value : Bool) : Tx → Tx
  | [] => []
  | c :: s => esc1 value c ++ esc value s
def writeA : List At → Tx
  | [] => []
  | a :: l => (32 :: a.1 ++ [61, 34] ++ esc true a.2 ++ [34]) ++ writeA l
mutual
def writeN : Nd → Tx
  | .mk k nm tx as_ ks =>
    if k = 1 then 60 :: nm ++ writeA as_ ++ (if ks.isEmpty then [47, 62] else [62] ++ writeL ks ++ ([60, 47] ++ nm ++ [62]))
    else if k = 2 then esc false tx
    else if k = 3 then [60, 33, 45, 45] ++ tx ++ [45, 45, 62]
    else if k = 4 then [60, 63] ++ nm ++ (if tx = [] then [] else 32 :: tx) ++ [63, 62]
    else []
def writeL : List Nd → Tx
  | [] => []
  | x :: xs => writeN x ++ writeL xs
end
def writeD (d : Doc) : Tx := writeL d.before ++ writeN d.root ++ writeL d.after

/-! ### Which may be -/
def good (s : Tx) : Bool := decide (badW s 0 < 0)
def plainT (s : Tx) : Bool := good s && decide (13 ∉ s)
def attrsOk : List Tx → List At → Bool
  | _, [] => true
  | seen, a :: l => nameR a.1 && good a.2 && decide (a.1 ∉ seen) && attrsOk (seen ++ [a.1]) l
def headOk (s : Tx) : Bool := match s with
  | [] => true
  | c :: _ => !Qx.blank c
def xml3 : Tx := [120, 109, 108]
mutual
def fairN : Nd → Bool
  | .mk k nm tx as_ ks =>
    if k = 1 then nameR nm && decide (tx = []) && attrsOk [] as_ && fairL 0 ks
    else if k = 2 then as_.isEmpty && ks.isEmpty && decide (nm = []) && decide (tx ≠ []) && good tx
    else if k = 3 then as_.isEmpty && ks.isEmpty && decide (nm = []) && plainT tx && (find [45, 45] tx).isNone && decide (tx.getLast? ≠ some 45)
    else if k = 4 then as_.isEmpty && ks.isEmpty && nameR nm && decide (nm.map low ≠ xml3) && plainT tx && (find [63, 62] tx).isNone && headOk tx
    else false
def fairL (was : Int) : List Nd → Bool
  | [] => true
  | x :: xs => fairN x && !(decide (was = 2) && decide (x.kind = 2)) && fairL x.kind xs
end
def miscOk : List Nd → Bool
  | [] => true
  | x :: xs => (decide (x.kind = 3) || decide (x.kind = 4)) && fairN x && miscOk xs
def mayD (d : Doc) : Bool := decide (d.root.kind = 1) && fairN d.root && miscOk d.before && miscOk d.after && decide (depthN d.root ≤ 32) && decide (countN d.root + d.before.length + d.after.length ≤ 4096) && decide ((writeD d).length ≤ 65536)

/-! ### What is good is valid -/
theorem good_V {s : Tx} (h : good s = true) : V s := V_of_bad (of_decide_eq_true h)
theorem V_good {s : Tx} (h : V s) : good s = true := by
  unfold good
  rw [decide_eq_true_eq]
  obtain ⟨rs, hr, rfl⟩ := h
  have h1 := runesW_E (E rs) rs 0 hr (by rw [List.drop_zero])
  have h2 := bad_of_runes (E rs) (E rs).length 0 rs (by omega) h1
  rw [h2]
  decide
theorem nameR_runes {nm : Tx} (h : nameR nm = true) : ∃ rs : List Nat, nm = E rs ∧ rs ≠ [] ∧ (∀ r ∈ rs, Utf.Char (r : Nat) = true) ∧ (∀ r ∈ rs, GoesOn (r : Nat) = true) ∧ ∀ q, rs.head? = some q → Begins (q : Nat) = true := by
  unfold nameR at h
  cases hs : runesW nm 0 with
  | none => rw [hs] at h; cases h
  | some rs =>
    rw [hs] at h
    obtain ⟨hE, _⟩ := runesW_sound nm nm.length 0 rs (by omega) (by omega) hs
    rw [List.drop_zero] at hE
    cases rs with
    | nil => cases h
    | cons r rs =>
      simp only [Bool.and_eq_true, List.all_eq_true] at h
      obtain ⟨h1, h2, h3⟩ := h
      have hg : ∀ x ∈ r :: rs, GoesOn (x : Nat) = true := fun x hx => by
        rcases List.mem_cons.1 hx with rfl | hx
        · exact h2
        · exact h3 x hx
      refine ⟨r :: rs, hE, by simp, fun x hx => char_of_goesOn (hg x hx), hg, fun q hq => ?_⟩
      simp at hq
      rw [← hq]
      exact h1
end Go.Proofs.YtokdnhdfmgfkeaaGreatDoor.Xo
end

section
namespace Go.Proofs.YtokdnhdfmgfkeaaGreatDoor.Xl
open Go.RowKit UtfW Qx

theorem eat_app (y : Tx) : ∀ {t r : Tx} {n : Nat}, eat t r = .ok () n → eat t (r ++ y) = .ok () n
  | [], r, n, h => by
    rw [eat] at h ⊢
    exact h
  | c :: t, [], n, h => by cases h
  | c :: t, b :: r, n, h => by
    rw [eat] at h
    rw [List.cons_append, eat]
    split at h
    · rename_i hb
      rw [if_pos hb]
      obtain ⟨m, hm, rfl⟩ := shift_ok h
      rw [eat_app y hm]
      rfl
    · cases h
theorem hp_app {p r : Tx} (y : Tx) (h : p.length ≤ r.length) : Lib.hasPrefix (r ++ y) p = Lib.hasPrefix r p := by
  rw [Bool.eq_iff_iff]
  have e : ∀ l : Tx, Lib.hasPrefix l p = true ↔ p <+: l := fun l => List.isPrefixOf_iff_prefix
  rw [e, e]
  constructor
  · rintro ⟨x, hx⟩
    have h1 := congrArg (List.take p.length) hx
    rw [List.take_left, List.take_append_of_le_length h] at h1
    exact ⟨r.drop p.length, (congrArg (· ++ r.drop p.length) h1).trans (List.take_append_drop _ _)⟩
  · rintro ⟨x, rfl⟩
    exact ⟨x ++ y, by simp⟩
theorem hp_yes {p r : Tx} (y : Tx) (h : Lib.hasPrefix r p = true) : Lib.hasPrefix (r ++ y) p = true := by
  rw [hp_app y (prefix_len h)]
  exact h
theorem find_app (y : Tx) {t : Tx} : ∀ {r : Tx} {n : Nat}, find t r = some n → find t (r ++ y) = some n
  | [], n, h => by
    rw [find] at h
    split at h
    · rename_i ht
      injection h with h
      subst h; subst ht
      cases y with
      | nil => rfl
      | cons b y => rw [List.nil_append, find, if_pos (by simp [List.isPrefixOf])]
    · cases h
  | b :: r, n, h => by
    have hl := find_len h
    have e : t.isPrefixOf (b :: (r ++ y)) = t.isPrefixOf (b :: r) := hp_app (p := t) (r := b :: r) y (by omega)
    rw [find] at h
    rw [List.cons_append, find, e]
    split at h
    · rename_i hp
      rw [if_pos hp]
      exact h
    · rename_i hp
      rw [if_neg hp]
      cases hf : find t r with
      | none => rw [hf] at h; cases h
      | some m =>
        rw [hf] at h
        rw [find_app y hf]
        exact h
theorem upto_app (y : Tx) {t r x : Tx} {n : Nat} (h : upto t r = .ok x n) : upto t (r ++ y) = .ok x n := by
  unfold upto at h ⊢
  cases hf : find t r with
  | none => rw [hf] at h; cases h
  | some m =>
    rw [hf] at h
    rw [find_app y hf]
    injection h with h1 h2
    obtain ⟨g, _⟩ := find_len hf
    simp only
    rw [List.take_append_of_le_length (by omega), h1, h2]
theorem blanks_app (y : Tx) : ∀ {r : Tx}, blanks r < r.length → blanks (r ++ y) = blanks r
  | [], h => by simp at h
  | c :: t, h => by
    unfold blanks at h ⊢
    rw [List.cons_append, List.takeWhile_cons, List.takeWhile_cons]
    rw [List.takeWhile_cons] at h
    split
    · rename_i hc
      rw [if_pos hc] at h
      simp at h
      have := blanks_app y (r := t) (by unfold blanks; omega)
      unfold blanks at this
      simp [this]
    · rfl
theorem refR_app (y : Tx) {t v : Tx} {n : Nat} (h : refR t = .ok v n) : refR (t ++ y) = .ok v n := by
  unfold refR at h ⊢
  cases hf : find [59] t with
  | none => rw [hf] at h; cases h
  | some m =>
    rw [hf] at h
    rw [find_app y hf]
    obtain ⟨g, _⟩ := find_len hf
    simp only at h ⊢
    rw [List.take_append_of_le_length (by omega)]
    exact h
theorem line_app2 (y : Tx) {r : Tx} (h : 2 ≤ r.length) : line (r ++ y) = line r := by
  unfold line
  rw [hp_app y (by simpa using h)]

/-! ### Names -/
theorem nameF_fuel : ∀ (rs : List Nat) (f g : Nat) (first : Bool), rs.length < f → rs.length < g → (∀ r ∈ rs, Utf.Char (r : Nat) = true) → nameF f first (E rs) = nameF g first (E rs)
  | [], f, g, first, _, _, _ => by
    show nameF f first [] = nameF g first []
    rw [nameF_nil, nameF_nil]
  | r :: rs, 0, g, first, h, _, _ => absurd h (by omega)
  | r :: rs, f + 1, 0, first, _, h, _ => absurd h (by omega)
  | r :: rs, f + 1, g + 1, first, h, h2, hr => by
    have hc := hr r (List.mem_cons_self ..)
    rw [E_cons, nameF_E f first hc, nameF_E g first hc, nameF_fuel rs f g false (by simp at h; omega) (by simp at h2; omega) fun x hx => hr x (List.mem_cons_of_mem _ hx)]
theorem nameF_app (y : Tx) : ∀ (rs : List Nat) (f g : Nat) (first : Bool), rs.length < f → rs.length < g → (∀ r ∈ rs, Utf.Char (r : Nat) = true) → nameF f first (E rs) < (E rs).length → nameF g first (E rs ++ y) = nameF f first (E rs)
  | [], f, g, first, _, _, _, h => by
    simp [E] at h
  | r :: rs, 0, g, first, h, _, _, _ => absurd h (by omega)
  | r :: rs, f + 1, 0, first, _, h, _, _ => absurd h (by omega)
  | r :: rs, f + 1, g + 1, first, h, h2, hr, hlt => by
    have hc := hr r (List.mem_cons_self ..)
    rw [E_cons, nameF_E f first hc] at hlt
    rw [E_cons, List.append_assoc, nameF_E f first hc, nameF_E g first hc]
    split
    · rfl
    · rename_i hg
      rw [if_neg hg, List.length_append] at hlt
      rw [nameF_app y rs f g false (by simp at h; omega) (by simp at h2; omega) (fun x hx => hr x (List.mem_cons_of_mem _ hx)) (by omega)]
theorem nameL_app (y : Tx) {r : Tx} (hv : V r) (h : nameL r < r.length) : nameL (r ++ y) = nameL r := by
  obtain ⟨rs, hr, rfl⟩ := hv
  have hge := E_ge hr
  unfold nameL at h ⊢
  exact nameF_app y rs _ _ true (by omega) (by rw [List.length_append]; omega) hr h
theorem name_app (y : Tx) {r x : Tx} {n : Nat} (hv : V r) (h : name r = .ok x n) (hlt : n < r.length) : name (r ++ y) = .ok x n := by
  obtain ⟨g1, g2, g3, g4⟩ := name_len h
  have e := nameL_app y hv (by omega)
  unfold name
  rw [if_neg (by intro e2; have := congrArg List.length e2; simp at this; have h3 : r = [] := this.1; rw [h3] at hlt; simp at hlt), e, if_neg (by omega), List.take_append_of_le_length (by omega), ← g4, ← g3]

/-! ### Values, characters -/
theorem drop_app {r y : Tx} {n : Nat} (h : n ≤ r.length) : (r ++ y).drop n = r.drop n ++ y := List.drop_append_of_le_length h
theorem valF_app (y : Tx) : ∀ {f g : Nat} {q : UInt8} {r out v : Tx} {n : Nat}, f ≤ g → valF f q r out = .ok v n → valF g q (r ++ y) out = .ok v n
  | 0, g, q, r, out, v, n, _, h => by cases h
  | f + 1, 0, q, r, out, v, n, hg, h => absurd hg (by omega)
  | f + 1, g + 1, q, [], out, v, n, _, h => by cases h
  | f + 1, g + 1, q, c :: t, out, v, n, hg, h => by
    have hg' : f ≤ g := by omega
    rw [valF] at h
    rw [List.cons_append, valF]
    split at h
    · rename_i h1
      rw [if_pos h1]
      exact h
    · rename_i h1
      rw [if_neg h1]
      split at h
      · cases h
      · rename_i h2
        rw [if_neg h2]
        split at h
        · rename_i h3
          rw [if_pos h3]
          cases hr : refR t with
          | bad e o => rw [hr] at h; cases h
          | ok u m =>
            rw [hr] at h
            rw [refR_app y hr]
            obtain ⟨p, hp, rfl⟩ := shift_ok h
            have g1 := refR_len hr
            simp only
            rw [← List.cons_append, drop_app (by simp; omega), valF_app y hg' hp]
            rfl
        · rename_i h3
          rw [if_neg h3]
          split at h
          · rename_i h4
            rw [if_pos h4]
            obtain ⟨p, hp, rfl⟩ := shift_ok h
            have g1 := line_len (c := c) t
            have g2 := valF_len hp
            rw [List.length_drop] at g2
            rw [← List.cons_append, line_app2 y (by omega), drop_app g1.2, valF_app y hg' hp]
            rfl
          · rename_i h4
            rw [if_neg h4]
            obtain ⟨p, hp, rfl⟩ := shift_ok h
            rw [valF_app y hg' hp]
            rfl
theorem value_app (y : Tx) {r v : Tx} {n : Nat} (h : value r = .ok v n) : value (r ++ y) = .ok v n := by
  cases r with
  | nil => cases h
  | cons q t =>
    rw [value] at h
    rw [List.cons_append, value]
    split at h
    · rename_i h1
      rw [if_pos h1]
      obtain ⟨p, hp, rfl⟩ := shift_ok h
      rw [valF_app y (by simp) hp]
      rfl
    · cases h
theorem textF_has : ∀ {f : Nat} {r out v : Tx} {n : Nat}, textF f r out = .ok v n → n < r.length → 60 ∈ r := by
  intro f r out v n h hlt
  rcases textF_end h with h1 | h1
  · have := congrArg List.length h1
    rw [List.length_drop] at this
    simp at this
    omega
  · exact List.mem_of_mem_drop (List.mem_of_head? h1)
theorem textF_app (y : Tx) : ∀ {f g : Nat} {r out v : Tx} {n : Nat}, f ≤ g → textF f r out = .ok v n → n < r.length → textF g (r ++ y) out = .ok v n
  | 0, g, r, out, v, n, _, h, _ => by cases h
  | f + 1, 0, r, out, v, n, hg, h, _ => absurd hg (by omega)
  | f + 1, g + 1, [], out, v, n, _, h, hlt => by simp at hlt
  | f + 1, g + 1, c :: t, out, v, n, hg, h, hlt => by
    have hg' : f ≤ g := by omega
    have h60 := textF_has h hlt
    rw [textF] at h
    rw [List.cons_append, textF]
    split at h
    · rename_i h1
      rw [if_pos h1]
      exact h
    · rename_i h1
      rw [if_neg h1]
      split at h
      · rename_i h2
        rw [if_pos h2]
        cases hr : refR t with
        | bad e o => rw [hr] at h; cases h
        | ok u m =>
          rw [hr] at h
          rw [refR_app y hr]
          obtain ⟨p, hp, rfl⟩ := shift_ok h
          have g1 := refR_len hr
          simp only
          rw [← List.cons_append, drop_app (by simp; omega), textF_app y hg' hp (by rw [List.length_drop]; simp at hlt ⊢; omega)]
          rfl
      · rename_i h2
        rw [if_neg h2]
        split at h
        · rename_i h3
          rw [if_pos h3]
          obtain ⟨p, hp, rfl⟩ := shift_ok h
          have g1 := line_len (c := c) t
          rw [← List.cons_append, line_app2 y (by omega), drop_app g1.2, textF_app y hg' hp (by rw [List.length_drop]; omega)]
          rfl
        · rename_i h3
          rw [if_neg h3]
          split at h
          · cases h
          · rename_i h4
            have h5 : Lib.hasPrefix (c :: (t ++ y)) [93, 93, 62] = false := by
              cases hp : Lib.hasPrefix (c :: (t ++ y)) [93, 93, 62] with
              | false => rfl
              | true =>
                exfalso
                rcases Nat.lt_or_ge (c :: t).length 3 with g3 | g3
                · obtain ⟨x, hx⟩ := hp_cut hp
                  rw [← List.cons_append] at hx
                  have h6 := congrArg (List.take (c :: t).length) hx
                  rw [List.take_left, List.take_append_of_le_length (by simp at g3 ⊢; omega)] at h6
                  rw [h6] at h60
                  have := List.mem_of_mem_take h60
                  revert this
                  decide
                · have := hp_app (p := [93, 93, 62]) (r := c :: t) y g3
                  rw [List.cons_append, hp] at this
                  exact h4 this.symm
            rw [h5]
            obtain ⟨p, hp, rfl⟩ := shift_ok h
            simp only [Bool.false_eq_true, if_false]
            rw [textF_app y hg' hp (by simp at hlt; omega)]
            rfl

/-! ### Tags -/
theorem attr_app (y : Tx) {there : List At} {r : Tx} {a : At} {n : Nat} (hv : V r) (h : attr there r = .ok a n) : attr there (r ++ y) = .ok a n := by
  unfold attr at h ⊢
  cases hn : name r with
  | bad c o => rw [hn] at h; cases h
  | ok nm n1 =>
    rw [hn] at h
    simp only at h
    obtain ⟨g1, g2, _, _⟩ := name_len hn
    split at h
    · cases h
    · rename_i hthere
      cases he : eat [61] (r.drop (n1 + blanks (r.drop n1))) with
      | bad c o => rw [he] at h; cases h
      | ok u m =>
        rw [he] at h
        simp only at h
        obtain ⟨g3, g4⟩ := eat_len he
        rw [List.length_drop] at g4
        simp at g3
        subst g3
        have hb1 : blanks ((r ++ y).drop n1) = blanks (r.drop n1) := by rw [drop_app g2]; exact blanks_app y (by rw [List.length_drop]; omega)
        cases hval : value (r.drop (n1 + blanks (r.drop n1) + 1 + blanks (r.drop (n1 + blanks (r.drop n1) + 1)))) with
        | bad c o => rw [hval] at h; cases h
        | ok v n2 =>
          rw [hval] at h
          have g5 := value_len hval
          rw [List.length_drop] at g5
          have hb2 : blanks ((r ++ y).drop (n1 + blanks (r.drop n1) + 1)) = blanks (r.drop (n1 + blanks (r.drop n1) + 1)) := by rw [drop_app (by omega)]; exact blanks_app y (by rw [List.length_drop]; omega)
          rw [name_app y hv hn (by omega)]
          simp only
          rw [if_neg hthere, hb1, drop_app (by omega), eat_app y he]
          simp only
          rw [hb2, drop_app (by omega), value_app y hval]
          exact h
theorem tagF_app (y : Tx) : ∀ {f g : Nat} {r : Tx} {ats : List At} {v : Bool × List At} {n : Nat}, f ≤ g → V r → tagF f r ats = .ok v n → tagF g (r ++ y) ats = .ok v n
  | 0, g, r, ats, v, n, _, _, h => by cases h
  | f + 1, 0, r, ats, v, n, hg, _, h => absurd hg (by omega)
  | f + 1, g + 1, r, ats, v, n, hg, hv, h => by
    have hg' : f ≤ g := by omega
    have hb := blanks_V hv
    have hbl := blanks_le r
    cases hd : r.drop (blanks r) with
    | nil => rw [tagF_nil f ats hd] at h; cases h
    | cons c t =>
      have hlt : blanks r < r.length := by
        have := congrArg List.length hd
        rw [List.length_drop] at this
        simp at this
        omega
      have hbe := blanks_app y hlt
      have hd2 : (r ++ y).drop (blanks (r ++ y)) = c :: (t ++ y) := by rw [hbe, drop_app (by omega), hd]; rfl
      rw [hd] at hb
      rw [tagF_cons f ats hd] at h
      rw [tagF_cons g ats hd2, hbe]
      by_cases h1 : c = 62
      · rw [if_pos h1] at h ⊢
        exact h
      · rw [if_neg h1] at h ⊢
        by_cases h2 : c = 47
        · rw [if_pos h2] at h ⊢
          cases he : eat [47, 62] (c :: t) with
          | bad e o => rw [he] at h; cases h
          | ok u m =>
            rw [he] at h
            have := eat_app y he
            rw [List.cons_append] at this
            rw [this]
            exact h
        · rw [if_neg h2] at h ⊢
          by_cases h3 : blanks r = 0
          · rw [if_pos h3] at h; cases h
          · rw [if_neg h3] at h ⊢
            cases hat : attr ats (c :: t) with
            | bad e o => rw [hat] at h; cases h
            | ok a m =>
              rw [hat] at h
              have := attr_app y hb hat
              rw [List.cons_append] at this
              rw [this]
              obtain ⟨p, hp, rfl⟩ := shift_ok h
              obtain ⟨_, g2⟩ := attr_V hb hat
              have g1 := attr_len hat
              simp only
              rw [← List.cons_append, drop_app g1.2, tagF_app y hg' g2 hp]
              rfl
theorem tag_app (y : Tx) {r : Tx} {t : Tok} {n : Nat} (hr : 1 ≤ r.length) (hv : V (r.drop 1)) (h : tag r = .ok t n) : tag (r ++ y) = .ok t n := by
  unfold tag at h ⊢
  cases hn : name (r.drop 1) with
  | bad c o => rw [hn] at h; cases h
  | ok nm m =>
    rw [hn] at h
    simp only at h
    obtain ⟨g1, g2, _, _⟩ := name_len hn
    rw [List.length_drop] at g2
    obtain ⟨_, _, g3⟩ := name_V hv hn
    rw [List.drop_drop] at g3
    cases ht : tagF (r.length + 1) (r.drop (1 + m)) [] with
    | bad c o => rw [ht] at h; cases h
    | ok ea p =>
      rw [ht] at h
      have g4 := tagF_len ht
      rw [List.length_drop] at g4
      rw [drop_app hr, name_app y hv hn (by rw [List.length_drop]; omega)]
      simp only
      rw [drop_app (by omega), tagF_app y (by rw [List.length_append]; omega) g3 ht]
      exact h
theorem instr_app (y : Tx) {r : Tx} {t : Tok} {n : Nat} (hr : 2 ≤ r.length) (hv : V (r.drop 2)) (h : instr r = .ok t n) : instr (r ++ y) = .ok t n := by
  have hlen := (instr_len h).2
  unfold instr at h ⊢
  cases hn : name (r.drop 2) with
  | bad c o => rw [hn] at h; cases h
  | ok nm m =>
    rw [hn] at h
    simp only at h
    obtain ⟨g1, g2, _, _⟩ := name_len hn
    rw [List.length_drop] at g2
    split at h
    · cases h
    · rename_i hx
      have hb0 := blanks_le (r.drop (2 + m))
      rw [List.length_drop] at hb0
      split at h
      · rename_i h0
        cases he : eat [63, 62] (r.drop (2 + m)) with
        | bad c o => rw [he] at h; cases h
        | ok u p =>
          rw [he] at h
          obtain ⟨g3, g4⟩ := eat_len he
          rw [List.length_drop] at g4
          simp at g3
          have hb : blanks ((r ++ y).drop (2 + m)) = blanks (r.drop (2 + m)) := by rw [drop_app (by omega)]; exact blanks_app y (by rw [List.length_drop]; omega)
          rw [drop_app hr, name_app y hv hn (by rw [List.length_drop]; omega)]
          simp only
          rw [if_neg hx, if_pos (by rw [hb]; exact h0), drop_app (by omega), eat_app y he]
          exact h
      · rename_i h0
        cases hu : upto [63, 62] (r.drop (2 + m + blanks (r.drop (2 + m)))) with
        | bad c o => rw [hu] at h; cases h
        | ok x p =>
          rw [hu] at h
          obtain ⟨g3, g4, _⟩ := upto_len hu
          rw [List.length_drop] at g3
          simp at g4
          have hb : blanks ((r ++ y).drop (2 + m)) = blanks (r.drop (2 + m)) := by rw [drop_app (by omega)]; exact blanks_app y (by rw [List.length_drop]; omega)
          rw [drop_app hr, name_app y hv hn (by rw [List.length_drop]; omega)]
          simp only
          rw [if_neg hx, if_neg (by rw [hb]; exact h0), hb, drop_app (by omega), upto_app y hu]
          exact h
theorem comment_app (y : Tx) {r : Tx} {t : Tok} {n : Nat} (hr : 4 ≤ r.length) (h : comment r = .ok t n) : comment (r ++ y) = .ok t n := by
  unfold comment at h ⊢
  cases hu : upto [45, 45] (r.drop 4) with
  | bad c o => rw [hu] at h; cases h
  | ok x m =>
    rw [hu] at h
    obtain ⟨g3, _, _⟩ := upto_len hu
    rw [List.length_drop] at g3
    rw [drop_app hr, upto_app y hu]
    simp only at h ⊢
    rw [drop_app (by omega)]
    cases hd : r.drop (4 + m) with
    | nil => rw [hd] at h; cases h
    | cons c s =>
      rw [hd] at h
      exact h
theorem cdata_app (y : Tx) {r : Tx} {t : Tok} {n : Nat} (hr : 9 ≤ r.length) (h : cdata r = .ok t n) : cdata (r ++ y) = .ok t n := by
  unfold cdata at h ⊢
  cases hu : upto [93, 93, 62] (r.drop 9) with
  | bad c o => rw [hu] at h; cases h
  | ok x m =>
    rw [hu] at h
    rw [drop_app hr, upto_app y hu]
    exact h
theorem endT_app (y : Tx) {r : Tx} {t : Tok} {n : Nat} (hr : 2 ≤ r.length) (hv : V (r.drop 2)) (h : endT r = .ok t n) : endT (r ++ y) = .ok t n := by
  unfold endT at h ⊢
  cases hn : name (r.drop 2) with
  | bad c o => rw [hn] at h; cases h
  | ok nm m =>
    rw [hn] at h
    simp only at h
    obtain ⟨g1, g2, _, _⟩ := name_len hn
    rw [List.length_drop] at g2
    cases he : eat [62] (r.drop (2 + m + blanks (r.drop (2 + m)))) with
    | bad c o => rw [he] at h; cases h
    | ok u p =>
      rw [he] at h
      obtain ⟨g3, g4⟩ := eat_len he
      rw [List.length_drop] at g4
      simp at g3
      have hb : blanks ((r ++ y).drop (2 + m)) = blanks (r.drop (2 + m)) := by rw [drop_app (by omega)]; exact blanks_app y (by rw [List.length_drop]; omega)
      rw [drop_app hr, name_app y hv hn (by rw [List.length_drop]; omega)]
      simp only
      rw [hb, drop_app (by omega), eat_app y he]
      exact h
theorem mark_app (y : Tx) {r : Tx} {t : Tok} {n : Nat} (h : mark r = .ok t n) : mark (r ++ y) = .ok t n := by
  unfold mark at h ⊢
  split at h
  · rename_i hp
    rw [if_pos (hp_yes y hp)]
    exact comment_app y (prefix_len hp) h
  · rename_i hp
    split at h
    · rename_i hp2
      have hl := prefix_len hp2
      have : cdT.length = 9 := rfl
      have h4 : cmT.length = 4 := rfl
      rw [if_neg (by rw [hp_app y (by omega)]; exact hp), if_pos (hp_yes y hp2)]
      exact cdata_app y (by omega) h
    · split at h <;> cases h
theorem chars_app (y : Tx) {r : Tx} {t : Tok} {n : Nat} (h : chars r = .ok t n) (hlt : n < r.length) : chars (r ++ y) = .ok t n := by
  unfold chars at h ⊢
  cases ht : textF (r.length + 1) r [] with
  | bad c o => rw [ht] at h; cases h
  | ok x m =>
    rw [ht] at h
    injection h with h1 h2
    rw [textF_app y (by rw [List.length_append]; omega) ht (by omega)]
    simp only
    rw [h1, h2]
theorem token_app (y : Tx) {r : Tx} {t : Tok} {n : Nat} (hv : V r) (h0 : r ≠ []) (h : token r = .ok t n) (hk : t.kind = 4 → n < r.length) : token (r ++ y) = .ok t n := by
  have hV := token_V hv h
  have hh : (r ++ y).head? = r.head? := by
    cases r with
    | nil => exact absurd rfl h0
    | cons c s => rfl
  unfold token at h ⊢
  rw [hh]
  split at h
  · rename_i h1
    rw [if_pos h1]
    exact chars_app y h (hk (hV.2.2.2 h1))
  · rename_i h1
    rw [if_neg h1]
    have hv1 : V (r.drop 1) := by
      obtain ⟨s, rfl⟩ := head_60 h1
      exact hv.tail (by decide)
    split at h
    · rename_i hp
      rw [if_pos (hp_yes y hp)]
      exact mark_app y h
    · rename_i hp
      split at h
      · rename_i hp2
        have hl := prefix_len hp2
        simp at hl
        rw [if_neg (by rw [hp_app y (by simpa using hl)]; exact hp), if_pos (hp_yes y hp2)]
        exact instr_app y hl (V.past hv hp2 (by decide)) h
      · rename_i hp2
        split at h
        · rename_i hp3
          have hl := prefix_len hp3
          simp at hl
          rw [if_neg (by rw [hp_app y (by simpa using hl)]; exact hp), if_neg (by rw [hp_app y (by simpa using hl)]; exact hp2), if_pos (hp_yes y hp3)]
          exact endT_app y hl (V.past hv hp3 (by decide)) h
        · rename_i hp3
          have hl : 2 ≤ r.length := by
            unfold tag at h
            cases hn : name (r.drop 1) with
            | bad c o => rw [hn] at h; cases h
            | ok nm m =>
              obtain ⟨g1, g2, _, _⟩ := name_len hn
              rw [List.length_drop] at g2
              omega
          rw [if_neg (by rw [hp_app y (by simpa using hl)]; exact hp), if_neg (by rw [hp_app y (by simpa using hl)]; exact hp2), if_neg (by rw [hp_app y (by simpa using hl)]; exact hp3)]
          exact tag_app y (by omega) hv1 h

/-! ### All tokens -/
theorem runF_ext : ∀ {f : Nat} {r : Tx} {k p : Nat} {ts us : List Tok}, runF f r k ts = (0, p, us) → us ≠ [] → ∃ zs, us = ts ++ zs
  | 0, r, k, p, ts, us, h, _ => by
    injection h with _ h
    injection h with _ h
    exact ⟨[], by rw [h, List.append_nil]⟩
  | f + 1, r, k, p, ts, us, h, hne => by
    rw [runF] at h
    split at h
    · injection h with _ h
      injection h with _ h
      exact ⟨[], by rw [h, List.append_nil]⟩
    · cases ht : token r with
      | bad c o =>
        rw [ht] at h
        injection h with _ h
        injection h with _ h
        exact absurd h.symm hne
      | ok t n =>
        rw [ht] at h
        obtain ⟨zs, hz⟩ := runF_ext h hne
        exact ⟨{ t with at_ := k } :: zs, by rw [hz]; simp⟩
theorem runF_app (y : Tx) : ∀ {f g : Nat} {r : Tx} {k p : Nat} {ts us : List Tok}, V r → r.length < f → (r ++ y).length < g → runF f r k ts = (0, p, us) → us ≠ [] → (r ≠ [] → ∀ t, us.getLast? = some t → t.kind ≠ 4) →
    ∃ g', y.length < g' ∧ runF g (r ++ y) k ts = runF g' y (k + r.length) us
  | 0, g, r, k, p, ts, us, _, hf, _, _, _, _ => absurd hf (by omega)
  | f + 1, g, r, k, p, ts, us, hv, hf, hg, h, hne, hl => by
    rw [runF] at h
    split at h
    · rename_i h0
      injection h with _ h
      injection h with _ h
      subst h0; subst h
      exact ⟨g, by simpa using hg, rfl⟩
    · rename_i h0
      cases ht : token r with
      | bad c o =>
        rw [ht] at h
        injection h with _ h
        injection h with _ h
        exact absurd h.symm hne
      | ok t n =>
        rw [ht] at h
        obtain ⟨g1, g2⟩ := token_len ht h0
        obtain ⟨_, g3, _⟩ := token_V hv ht
        have hk : t.kind = 4 → n < r.length := fun e => by
          rcases Nat.lt_or_ge n r.length with g | g
          · exact g
          · exfalso
            have hd : r.drop n = [] := List.drop_eq_nil_of_le g
            simp only at h
            rw [hd] at h
            cases f with
            | zero => have := List.length_pos_iff.2 h0; omega
            | succ f =>
              rw [runF, if_pos rfl] at h
              injection h with _ h
              injection h with _ h
              exact hl h0 { t with at_ := k } (by rw [← h]; simp) e
        have ha := token_app y hv h0 ht hk
        obtain ⟨g', rfl⟩ : ∃ g', g = g' + 1 := ⟨g - 1, by omega⟩
        obtain ⟨g4, h4, h5⟩ := runF_app y (f := f) (g := g') g3 (by rw [List.length_drop]; omega) (by rw [List.length_append, List.length_drop]; rw [List.length_append] at hg; omega) h hne (fun _ => hl h0)
        refine ⟨g4, h4, ?_⟩
        rw [runF, if_neg (by intro e; have := congrArg List.length e; simp at this; exact h0 this.1), ha]
        simp only
        rw [drop_app g2, h5, List.length_drop]
        congr 1
        omega
/-- Tokens further on. -/
def moved (k : Nat) (ts : List Tok) : List Tok := ts.map fun t => { t with at_ := t.at_ + k }
theorem run_moved : ∀ {f g : Nat} {r : Tx} {j p : Nat} (k : Nat) {ts us zs : List Tok}, V r → r.length < f → r.length < g → runF f r j ts = (0, p, zs) → (zs ≠ [] ∨ r = []) → ∃ y, zs = ts ++ y ∧ runF g r (j + k) us = (0, 0, us ++ moved k y)
  | 0, g, r, j, p, k, ts, us, zs, _, hf, _, _, _ => absurd hf (by omega)
  | f + 1, 0, r, j, p, k, ts, us, zs, _, _, hg, _, _ => absurd hg (by omega)
  | f + 1, g + 1, r, j, p, k, ts, us, zs, hv, hf, hg, h, hne => by
    rw [runF] at h
    rw [runF]
    split at h
    · rename_i h0
      injection h with _ h
      injection h with _ h
      rw [if_pos h0]
      exact ⟨[], by rw [h, List.append_nil], by simp [moved]⟩
    · rename_i h0
      rw [if_neg h0]
      have hz : zs ≠ [] := hne.elim id fun e => absurd e h0
      cases ht : token r with
      | bad c o =>
        rw [ht] at h
        injection h with _ h
        injection h with _ h
        exact absurd h.symm hz
      | ok t n =>
        rw [ht] at h
        obtain ⟨g1, g2⟩ := token_len ht h0
        obtain ⟨_, g3, _⟩ := token_V hv ht
        obtain ⟨y, h1, h2⟩ := run_moved (f := f) (g := g) (us := us ++ [{ t with at_ := j + k }]) k g3 (by rw [List.length_drop]; omega) (by rw [List.length_drop]; omega) h (.inl hz)
        refine ⟨{ t with at_ := j } :: y, by rw [h1]; simp, ?_⟩
        simp only
        rw [show j + k + n = j + n + k by omega, h2]
        simp [moved]
theorem decl_app {a : Tx} (b : Tx) {n : Nat} (hv : V a) (h : decl a = .ok () n) (h5 : 5 ≤ a.length ∨ (a ++ b).take 5 ≠ xmlT) : decl (a ++ b) = .ok () n := by
  unfold decl at h ⊢
  by_cases hp : Lib.hasPrefix a xmlT = true
  · have hl := prefix_len hp
    have e5 : xmlT.length = 5 := rfl
    have hv5 : V (a.drop 5) := V.past hv hp (by decide)
    rw [hp_yes b hp, drop_app (by omega)]
    rw [hp] at h
    by_cases hg : GoesOn (nx (a.drop 5) 0).1 = false
    · rw [if_pos ⟨rfl, hg⟩] at h
      cases hu : upto [63, 62] (a.drop 5) with
      | bad c o => rw [hu] at h; cases h
      | ok x m =>
        rw [hu] at h
        obtain ⟨g1, g2, _⟩ := upto_len hu
        have hne : a.drop 5 ≠ [] := by
          intro e
          rw [e] at g1
          simp at g1 g2
          omega
        have hnx : (nx (a.drop 5 ++ b) 0).1 = (nx (a.drop 5) 0).1 := by
          obtain ⟨rs, hr, e⟩ := hv5
          cases rs with
          | nil => exact absurd e hne
          | cons r rs =>
            have hc := hr r (List.mem_cons_self ..)
            rw [e, E_cons, List.append_assoc, nx_E hc, nx_E hc]
        rw [hnx, if_pos ⟨rfl, hg⟩, upto_app b hu]
        exact h
    · rw [if_neg (fun e => hg e.2)] at h
      have hne : a.drop 5 ≠ [] := by
        intro e
        rw [e] at hg
        exact hg (by decide)
      have hnx : (nx (a.drop 5 ++ b) 0).1 = (nx (a.drop 5) 0).1 := by
        obtain ⟨rs, hr, e⟩ := hv5
        cases rs with
        | nil => exact absurd e hne
        | cons r rs =>
          have hc := hr r (List.mem_cons_self ..)
          rw [e, E_cons, List.append_assoc, nx_E hc, nx_E hc]
      rw [hnx, if_neg (fun e => hg e.2)]
      exact h
  · rw [if_neg (fun e => hp e.1)] at h
    rw [if_neg]
    · exact h
    · rintro ⟨hp2, _⟩
      rcases h5 with h5 | h5
      · rw [hp_app b (show xmlT.length ≤ a.length from h5)] at hp2
        exact hp hp2
      · obtain ⟨x, hx⟩ := hp_cut hp2
        refine h5 ?_
        rw [hx]
        rfl
/-- THE LAW XlexJoins. -/
theorem joins {a b : Tx} {x y : List Tok} {p q : Nat} (ha : a.length ≤ 4096) (hb : b.length ≤ 4096) (h1 : allF a = (0, p, x)) (h2 : allF b = (0, q, y)) (hx : x ≠ []) (hl : ∀ t, x.getLast? = some t → t.kind ≠ 4) (hx5 : Lib.hasPrefix b xmlT = false) (hy : y ≠ [] ∨ b = []) :
    ∃ p', allF (a ++ b) = (0, p', x ++ moved a.length y) := by
  unfold allF at h1 h2
  rw [if_neg (by omega)] at h1 h2
  split at h1
  · cases h1
  · rename_i hba
    split at h2
    · cases h2
    · rename_i hbb
      have hva : V a := V_of_bad (by omega)
      have hvb : V b := V_of_bad (by omega)
      have hdb : decl b = .ok () 0 := by
        unfold decl
        rw [if_neg (fun e => by rw [hx5] at e; cases e.1)]
      rw [hdb] at h2
      cases hda : decl a with
      | bad c o =>
        rw [hda] at h1
        injection h1 with _ h1
        injection h1 with _ h1
        exact absurd h1.symm hx
      | ok u n =>
        rw [hda] at h1
        have hn := decl_len hda
        have h5 : 5 ≤ a.length ∨ (a ++ b).take 5 ≠ xmlT := by
          rcases Nat.lt_or_ge a.length 5 with g | g
          · right
            intro e
            have e2 : a = xmlT.take a.length := by
              have := congrArg (List.take a.length) e
              rw [List.take_take, Nat.min_eq_left (by omega), List.take_left] at this
              exact this
            have bad : ∀ k : Fin 5, (allF (xmlT.take k.val)).1 ≠ 0 ∨ (allF (xmlT.take k.val)).2.2 = [] := by decide +kernel
            have h6 := bad ⟨a.length, g⟩
            simp only at h6
            rw [← e2] at h6
            have h7 : allF a = (0, p, x) := by
              unfold allF
              rw [if_neg (by omega), if_neg hba, hda]
              exact h1
            rw [h7] at h6
            rcases h6 with h6 | h6
            · exact h6 rfl
            · exact hx h6
          · exact .inl g
        have hdab := decl_app b hva hda h5
        have hvd := decl_V hva hda
        have hbad : badW (a ++ b) 0 = -1 := badW_V (hva.append hvb)
        unfold allF
        rw [if_neg (by rw [List.length_append]; omega), if_neg (by omega), hdab]
        simp only at h1 h2 ⊢
        rw [drop_app hn]
        obtain ⟨g', hg', he⟩ := runF_app b (f := a.length + 1) (g := (a ++ b).length + 1) hvd (by rw [List.length_drop]; omega) (by rw [List.length_append, List.length_drop, List.length_append]; omega) h1 hx (fun _ => hl)
        rw [he]
        rw [List.drop_zero] at h2
        obtain ⟨y', e1, e2⟩ := run_moved (f := b.length + 1) (g := g') (us := x) a.length hvb (by omega) hg' h2 hy
        rw [List.nil_append] at e1
        subst e1
        refine ⟨0, ?_⟩
        rw [← e2, List.length_drop]
        congr 1
        omega

/-! ### What is wrong has a code -/
theorem name_code {r : Tx} {c : Int} {o : Nat} (h : name r = .bad c o) : c ≠ 0 := by
  unfold name at h
  split at h
  · injection h with h _; rw [← h]; decide
  · split at h
    · injection h with h _; rw [← h]; decide
    · cases h
theorem eat_code {t r : Tx} {c : Int} {o : Nat} (h : eat t r = .bad c o) : c ≠ 0 := by
  obtain ⟨_, h1, _⟩ := eat_bad h
  rcases h1 with rfl | rfl <;> decide
theorem upto_code {t r : Tx} {c : Int} {o : Nat} (h : upto t r = .bad c o) : c ≠ 0 := by
  unfold upto at h
  split at h
  · injection h with h _; rw [← h]; decide
  · cases h
theorem refR_code {t : Tx} {c : Int} {o : Nat} (h : refR t = .bad c o) : c ≠ 0 := by
  unfold refR at h
  split at h
  · injection h with h _; rw [← h]; decide
  · split at h
    · injection h with h _; rw [← h]; decide
    · cases h
theorem valF_code : ∀ {f : Nat} {q : UInt8} {r out : Tx} {c : Int} {o : Nat}, valF f q r out = .bad c o → c ≠ 0
  | 0, q, r, out, c, o, h => by injection h with h _; rw [← h]; decide
  | f + 1, q, [], out, c, o, h => by injection h with h _; rw [← h]; decide
  | f + 1, q, x :: t, out, c, o, h => by
    rw [valF] at h
    split at h
    · cases h
    · split at h
      · injection h with h _; rw [← h]; decide
      · split at h
        · cases hr : refR t with
          | bad e p =>
            rw [hr] at h
            injection h with h _
            rw [← h]
            exact refR_code hr
          | ok u m =>
            rw [hr] at h
            obtain ⟨p, hp, _⟩ := shift_bad h
            exact valF_code hp
        · split at h
          · obtain ⟨p, hp, _⟩ := shift_bad h
            exact valF_code hp
          · obtain ⟨p, hp, _⟩ := shift_bad h
            exact valF_code hp
theorem value_code {r : Tx} {c : Int} {o : Nat} (h : value r = .bad c o) : c ≠ 0 := by
  cases r with
  | nil => injection h with h _; rw [← h]; decide
  | cons q t =>
    rw [value] at h
    split at h
    · obtain ⟨p, hp, _⟩ := shift_bad h
      exact valF_code hp
    · injection h with h _; rw [← h]; decide
theorem textF_code : ∀ {f : Nat} {r out : Tx} {c : Int} {o : Nat}, textF f r out = .bad c o → c ≠ 0
  | 0, r, out, c, o, h => by injection h with h _; rw [← h]; decide
  | f + 1, [], out, c, o, h => by cases h
  | f + 1, x :: t, out, c, o, h => by
    rw [textF] at h
    split at h
    · cases h
    · split at h
      · cases hr : refR t with
        | bad e p =>
          rw [hr] at h
          injection h with h _
          rw [← h]
          exact refR_code hr
        | ok u m =>
          rw [hr] at h
          obtain ⟨p, hp, _⟩ := shift_bad h
          exact textF_code hp
      · split at h
        · obtain ⟨p, hp, _⟩ := shift_bad h
          exact textF_code hp
        · split at h
          · injection h with h _; rw [← h]; decide
          · obtain ⟨p, hp, _⟩ := shift_bad h
            exact textF_code hp
theorem attr_code {there : List At} {r : Tx} {c : Int} {o : Nat} (h : attr there r = .bad c o) : c ≠ 0 := by
  unfold attr at h
  cases hn : name r with
  | bad d p =>
    rw [hn] at h
    injection h with h _
    rw [← h]
    exact name_code hn
  | ok nm n1 =>
    rw [hn] at h
    simp only at h
    split at h
    · injection h with h _; rw [← h]; decide
    · split at h
      · rename_i he
        injection h with h _
        rw [← h]
        exact eat_code he
      · split at h
        · rename_i he
          injection h with h _
          rw [← h]
          exact value_code he
        · cases h
theorem tagF_code : ∀ {f : Nat} {r : Tx} {ats : List At} {c : Int} {o : Nat}, tagF f r ats = .bad c o → c ≠ 0
  | 0, r, ats, c, o, h => by injection h with h _; rw [← h]; decide
  | f + 1, r, ats, c, o, h => by
    cases hd : r.drop (blanks r) with
    | nil =>
      rw [tagF_nil f ats hd] at h
      injection h with h _; rw [← h]; decide
    | cons x t =>
      rw [tagF_cons f ats hd] at h
      by_cases h1 : x = 62
      · rw [if_pos h1] at h; cases h
      · rw [if_neg h1] at h
        by_cases h2 : x = 47
        · rw [if_pos h2] at h
          cases he : eat [47, 62] (x :: t) with
          | bad e p =>
            rw [he] at h
            injection h with h _
            rw [← h]
            exact eat_code he
          | ok u m => rw [he] at h; cases h
        · rw [if_neg h2] at h
          by_cases h3 : blanks r = 0
          · rw [if_pos h3] at h
            injection h with h _; rw [← h]; decide
          · rw [if_neg h3] at h
            cases ha : attr ats (x :: t) with
            | bad e p =>
              rw [ha] at h
              injection h with h _
              rw [← h]
              exact attr_code ha
            | ok a m =>
              rw [ha] at h
              obtain ⟨p, hp, _⟩ := shift_bad h
              exact tagF_code hp
theorem token_code {r : Tx} {c : Int} {o : Nat} (h : token r = .bad c o) : c ≠ 0 := by
  unfold token at h
  split at h
  · unfold chars at h
    split at h
    · rename_i he
      injection h with h _
      rw [← h]
      exact textF_code he
    · cases h
  · split at h
    · unfold mark at h
      split at h
      · unfold comment at h
        split at h
        · rename_i he
          injection h with h _
          rw [← h]
          exact upto_code he
        · split at h
          · injection h with h _; rw [← h]; decide
          · split at h
            · cases h
            · injection h with h _; rw [← h]; decide
      · split at h
        · unfold cdata at h
          split at h
          · rename_i he
            injection h with h _
            rw [← h]
            exact upto_code he
          · cases h
        · split at h
          · injection h with h _; rw [← h]; decide
          · injection h with h _; rw [← h]; decide
    · split at h
      · unfold instr at h
        split at h
        · rename_i he
          injection h with h _
          rw [← h]
          exact name_code he
        · split at h
          · injection h with h _; rw [← h]; decide
          · split at h
            · split at h
              · rename_i he
                injection h with h _
                rw [← h]
                exact eat_code he
              · cases h
            · split at h
              · rename_i he
                injection h with h _
                rw [← h]
                exact upto_code he
              · cases h
      · split at h
        · unfold endT at h
          split at h
          · rename_i he
            injection h with h _
            rw [← h]
            exact name_code he
          · split at h
            · rename_i he
              injection h with h _
              rw [← h]
              exact eat_code he
            · cases h
        · unfold tag at h
          split at h
          · rename_i he
            injection h with h _
            rw [← h]
            exact name_code he
          · split at h
            · rename_i he
              injection h with h _
              rw [← h]
              exact tagF_code he
            · cases h
theorem run_ge : ∀ {f : Nat} {r : Tx} {k p : Nat} {ts us : List Tok}, runF f r k ts = (0, p, us) → ts.length ≤ us.length
  | 0, r, k, p, ts, us, h => by
    injection h with _ h
    injection h with _ h
    rw [h]
    exact Nat.le_refl _
  | f + 1, r, k, p, ts, us, h => by
    rw [runF] at h
    split at h
    · injection h with _ h
      injection h with _ h
      rw [h]
      exact Nat.le_refl _
    · cases ht : token r with
      | bad c o =>
        rw [ht] at h
        injection h with h _
        exact absurd h (token_code ht)
      | ok t n =>
        rw [ht] at h
        have := run_ge h
        simp at this
        omega
theorem run_some {f : Nat} {r : Tx} {k p : Nat} {us : List Tok} (hf : r.length < f) (h : runF f r k [] = (0, p, us)) : us ≠ [] ∨ r = [] := by
  cases f with
  | zero => exact absurd hf (by omega)
  | succ f =>
    rw [runF] at h
    split at h
    · rename_i h0
      exact .inr h0
    · cases ht : token r with
      | bad c o =>
        rw [ht] at h
        injection h with h _
        exact absurd h (token_code ht)
      | ok t n =>
        rw [ht] at h
        have := run_ge h
        refine .inl fun e => ?_
        rw [e] at this
        simp at this
/-- What stands behind a first document is never nothing. -/
theorem all_some {b : Tx} {q : Nat} {y : List Tok} (hb : b.length ≤ 65536) (h : allF b = (0, q, y)) (h5 : Lib.hasPrefix b xmlT = false) : y ≠ [] ∨ b = [] := by
  unfold allF at h
  rw [if_neg (by omega)] at h
  split at h
  · cases h
  · have hdb : decl b = .ok () 0 := by
      unfold decl
      rw [if_neg (fun e => by rw [h5] at e; cases e.1)]
    rw [hdb] at h
    simp only [List.drop_zero] at h
    exact run_some (by omega) h
end Go.Proofs.YtokdnhdfmgfkeaaGreatDoor.Xl
end

section
namespace Go.Proofs.YtokdnhdfmgfkeaaGreatDoor.Xo
open Go.RowKit UtfW Qx Xl Xt

/-! ### Names -/
theorem name_stop {c : UInt8} (h8 : c.toNat < 128) (hcc : Utf.Char (c.toNat : Nat) = true) (hg0 : GoesOn (c.toNat : Nat) = false) : ∀ (qs : List Nat) (f : Nat) (first : Bool) (x : Tx), qs.length < f → (∀ r ∈ qs, Utf.Char (r : Nat) = true) → (∀ q ∈ qs, GoesOn (q : Nat) = true) → (first = true → ∀ q, qs.head? = some q → Begins (q : Nat) = true) → nameF f first (E qs ++ c :: x) = (E qs).length
  | qs, 0, first, x, h, _, _, _ => absurd h (by omega)
  | [], f + 1, first, x, _, _, _, _ => by
    have := nameF_E f first (v := c.toNat) hcc x
    rw [hg0, encB_byte h8] at this
    show nameF (f + 1) first (c :: x) = 0
    simpa using this
  | q :: qs, f + 1, first, x, h, hc, hg, hb => by
    have h1 := hg q (List.mem_cons_self ..)
    rw [E_cons, List.append_assoc, nameF_E f first (hc q (List.mem_cons_self ..)), name_stop h8 hcc hg0 qs f false x (by simp at h; omega) (fun y hy => hc y (List.mem_cons_of_mem _ hy)) (fun y hy => hg y (List.mem_cons_of_mem _ hy)) (fun h => (by cases h)), List.length_append, if_neg]
    rw [h1]
    cases hf : first
    · simp
    · rw [hb hf q rfl]
      simp
theorem nameR_len {nm : Tx} (h : nameR nm = true) : nm ≠ [] := fun e => by
  rw [e, nameR_nil] at h
  cases h
theorem nameR_V {nm : Tx} (h : nameR nm = true) : V nm := by
  obtain ⟨rs, e, _, hr, _⟩ := nameR_runes h
  exact ⟨rs, hr, e⟩
/-- A name, and behind it something that doesn't go on with it. -/
theorem name_at {nm : Tx} {c : UInt8} (h : nameR nm = true) (h8 : c.toNat < 128) (hcc : Utf.Char (c.toNat : Nat) = true) (hg0 : GoesOn (c.toNat : Nat) = false) (y : Tx) : name (nm ++ c :: y) = .ok nm nm.length := by
  obtain ⟨rs, e, h0, hr, hg, hb⟩ := nameR_runes h
  have hl : nameL (nm ++ c :: y) = nm.length := by
    unfold nameL
    rw [e]
    refine name_stop h8 hcc hg0 rs _ true y ?_ hr hg fun _ => hb
    have := E_ge hr
    rw [List.length_append]
    omega
  have hn := nameR_len h
  have hp : nm.length ≠ 0 := fun e => hn (List.eq_nil_of_length_eq_zero e)
  unfold name
  rw [if_neg (by simp), hl, if_neg hp, List.take_left]
theorem begins_byte : ∀ c : Fin 128, Begins ((c.val : Nat) : Int) = true → c.val ≠ 33 ∧ c.val ≠ 47 ∧ c.val ≠ 60 ∧ c.val ≠ 62 ∧ c.val ≠ 63 ∧ c.val ≠ 34 ∧ c.val ≠ 39 ∧ c.val ≠ 61 ∧ Qx.blank (UInt8.ofNat c.val) = false := by decide +kernel
/-- A name's first byte. -/
theorem nameR_head {nm : Tx} (h : nameR nm = true) : ∃ c t, nm = c :: t ∧ c ≠ 33 ∧ c ≠ 47 ∧ c ≠ 60 ∧ c ≠ 62 ∧ c ≠ 63 ∧ Qx.blank c = false := by
  obtain ⟨rs, e, h0, hr, hg, hb⟩ := nameR_runes h
  cases rs with
  | nil => exact absurd rfl h0
  | cons r rs =>
    have hv := isRune_of_char (hr r (List.mem_cons_self ..))
    have hbr := hb r rfl
    rw [E_cons] at e
    rcases enc_bytes hv with ⟨h8, h1⟩ | h1
    · rw [h1] at e
      have g := begins_byte ⟨r, h8⟩ hbr
      simp only at g
      refine ⟨UInt8.ofNat r, E rs, e, ?_⟩
      have ht : (UInt8.ofNat r).toNat = r := by rw [UInt8.toNat_ofNat']; omega
      refine ⟨fun q => g.1 ?_, fun q => g.2.1 ?_, fun q => g.2.2.1 ?_, fun q => g.2.2.2.1 ?_, fun q => g.2.2.2.2.1 ?_, g.2.2.2.2.2.2.2.2⟩ <;> (rw [← ht, q]; rfl)
    · have hp := encB_pos hv
      cases hE : encB (r : Nat) with
      | nil => rw [hE] at hp; simp at hp
      | cons b l =>
        rw [hE] at e h1
        have hb8 := h1 b (List.mem_cons_self ..)
        refine ⟨b, l ++ E rs, e, ?_⟩
        refine ⟨?_, ?_, ?_, ?_, ?_, ?_⟩
        iterate 5 (intro q; rw [q] at hb8; exact absurd hb8 (by decide))
        unfold Qx.blank Blank
        simp
        omega

/-! ### Characters -/
theorem esc1_cases (value : Bool) (c : UInt8) :
    (esc1 value c = [c] ∧ c ≠ 38 ∧ c ≠ 60 ∧ c ≠ 13 ∧ (value = false → c ≠ 62) ∧ (value = true → c ≠ 34 ∧ c ≠ 9 ∧ c ≠ 10)) ∨
    ∃ e, esc1 value c = 38 :: e ∧ (∀ y, refR (e ++ y) = .ok [c] (e.length + 1)) ∧ 62 ∉ e ∧ (∀ b ∈ e, b.toNat < 128 ∧ Utf.Char (b.toNat : Nat) = true) ∧ e.length ≤ 5 := by
  have key : ∀ (x : Tx) (v : Nat) (c : UInt8), 59 ∉ x → refV x = some v → encB (v : Nat) = [c] → ∀ y, refR (x ++ [59] ++ y) = .ok [c] ((x ++ [59]).length + 1) := fun x v c h1 h2 h3 y => by
    rw [List.append_assoc, List.singleton_append, refR_of h1 y, h2]
    simp only
    rw [h3, List.length_append]
    rfl
  unfold esc1
  by_cases h1 : c = 38
  · rw [if_pos h1, h1]
    exact .inr ⟨_, rfl, key [97, 109, 112] 38 38 (by decide) (by decide) (encB_byte (c := 38) (by decide)), by decide, by decide, by decide⟩
  rw [if_neg h1]
  by_cases h2 : c = 60
  · rw [if_pos h2, h2]
    exact .inr ⟨_, rfl, key [108, 116] 60 60 (by decide) (by decide) (encB_byte (c := 60) (by decide)), by decide, by decide, by decide⟩
  rw [if_neg h2]
  by_cases h3 : c = 13
  · rw [if_pos h3, h3]
    exact .inr ⟨_, rfl, key [35, 49, 51] 13 13 (by decide) (by decide +kernel) (encB_byte (c := 13) (by decide)), by decide, by decide, by decide⟩
  rw [if_neg h3]
  by_cases h4 : c = 62 ∧ value = false
  · rw [if_pos h4, h4.1]
    exact .inr ⟨_, rfl, key [103, 116] 62 62 (by decide) (by decide) (encB_byte (c := 62) (by decide)), by decide, by decide, by decide⟩
  rw [if_neg h4]
  by_cases h5 : c = 34 ∧ value = true
  · rw [if_pos h5, h5.1]
    exact .inr ⟨_, rfl, key [113, 117, 111, 116] 34 34 (by decide) (by decide) (encB_byte (c := 34) (by decide)), by decide, by decide, by decide⟩
  rw [if_neg h5]
  by_cases h6 : c = 9 ∧ value = true
  · rw [if_pos h6, h6.1]
    exact .inr ⟨_, rfl, key [35, 57] 9 9 (by decide) (by decide +kernel) (encB_byte (c := 9) (by decide)), by decide, by decide, by decide⟩
  rw [if_neg h6]
  by_cases h7 : c = 10 ∧ value = true
  · rw [if_pos h7, h7.1]
    exact .inr ⟨_, rfl, key [35, 49, 48] 10 10 (by decide) (by decide +kernel) (encB_byte (c := 10) (by decide)), by decide, by decide, by decide⟩
  rw [if_neg h7]
  exact .inl ⟨rfl, h1, h2, h3, fun hv e => h4 ⟨e, hv⟩, fun hv => ⟨fun e => h5 ⟨e, hv⟩, fun e => h6 ⟨e, hv⟩, fun e => h7 ⟨e, hv⟩⟩⟩
theorem esc_no62 : ∀ s : Tx, 62 ∉ esc false s
  | [] => by simp [esc]
  | c :: s => by
    rw [esc, List.mem_append, not_or]
    refine ⟨?_, esc_no62 s⟩
    rcases esc1_cases false c with ⟨h, _, _, _, h4, _⟩ | ⟨e, h, _, h2, _⟩
    · rw [h, List.mem_singleton]
      exact fun q => h4 rfl q.symm
    · rw [h, List.mem_cons, not_or]
      exact ⟨by decide, h2⟩
theorem valF_esc : ∀ (v : Tx) {f : Nat} (out y : Tx), (esc true v).length < f → valF f 34 (esc true v ++ 34 :: y) out = .ok (out ++ v) ((esc true v).length + 1)
  | [], 0, out, y, h => absurd h (by omega)
  | [], f + 1, out, y, h => by
    show valF (f + 1) 34 (34 :: y) out = _
    rw [valF, if_pos rfl, List.append_nil]
    rfl
  | c :: v, 0, out, y, h => absurd h (by omega)
  | c :: v, f + 1, out, y, h => by
    rw [esc] at h ⊢
    rw [List.length_append] at h ⊢
    rcases esc1_cases true c with ⟨e, h1, h2, h3, _, h5⟩ | ⟨e, he, hr, _, _⟩
    · obtain ⟨h6, h7, h8⟩ := h5 rfl
      rw [e] at h ⊢
      simp only [List.length_singleton] at h ⊢
      rw [List.append_assoc, List.singleton_append, valF, if_neg h6, if_neg h2, if_neg h1, if_neg (fun q => q.elim h7 fun q => q.elim h8 h3), valF_esc v _ y (by omega)]
      simp only [Out.shift, List.append_assoc, List.singleton_append]
      all_goals (congr 1 <;> omega)
    · rw [he] at h ⊢
      simp only [List.length_cons] at h ⊢
      rw [List.append_assoc, List.cons_append, valF, if_neg (by decide), if_neg (by decide), if_pos rfl, hr]
      simp only [List.drop_succ_cons, List.drop_left]
      rw [valF_esc v _ y (by omega)]
      simp only [Out.shift, List.append_assoc, List.singleton_append]
      all_goals (congr 1 <;> omega)
theorem value_esc (v y : Tx) : value (34 :: (esc true v ++ 34 :: y)) = .ok v ((esc true v).length + 2) := by
  rw [value, if_pos (.inl rfl), valF_esc v [] y (by simp; omega)]
  simp only [Out.shift, List.nil_append]
  all_goals (congr 1 <;> omega)
theorem no_end {c : UInt8} {s y : Tx} (hy : y = [] ∨ y.head? = some 60) : Lib.hasPrefix (c :: (esc false s ++ y)) [93, 93, 62] = false := by
  cases hp : Lib.hasPrefix (c :: (esc false s ++ y)) [93, 93, 62] with
  | false => rfl
  | true =>
    exfalso
    obtain ⟨x, hx⟩ := hp_cut hp
    simp only [List.cons_append, List.nil_append] at hx
    injection hx with _ hx
    have hno := esc_no62 s
    match he : esc false s with
    | [] =>
      rw [he, List.nil_append] at hx
      rcases hy with rfl | hy
      · cases hx
      · rw [hx] at hy
        simp at hy
    | [a] =>
      rw [he] at hx
      injection hx with _ hx
      have hx : y = 62 :: x := hx
      rcases hy with rfl | hy
      · cases hx
      · rw [hx] at hy
        simp at hy
    | a :: b :: l =>
      rw [he] at hx hno
      injection hx with _ hx
      injection hx with hx _
      exact hno (by rw [hx]; simp)
theorem textF_esc : ∀ (s : Tx) {f : Nat} (out y : Tx), (y = [] ∨ y.head? = some 60) → (esc false s).length < f → textF f (esc false s ++ y) out = .ok (out ++ s) (esc false s).length
  | _, 0, out, y, _, h => absurd h (by omega)
  | [], f + 1, out, y, hy, h => by
    show textF (f + 1) y out = _
    rw [List.append_nil]
    rcases hy with rfl | hy
    · rw [textF]
      rfl
    · cases y with
      | nil => simp at hy
      | cons b y =>
        simp at hy
        rw [textF, if_pos hy]
        rfl
  | c :: s, f + 1, out, y, hy, h => by
    rw [esc] at h ⊢
    rw [List.length_append] at h ⊢
    rcases esc1_cases false c with ⟨e, h1, h2, h3, h4, _⟩ | ⟨e, he, hr, _, _⟩
    · rw [e] at h ⊢
      simp only [List.length_singleton] at h ⊢
      rw [List.append_assoc, List.singleton_append, textF, if_neg h2, if_neg h1, if_neg h3, no_end hy]
      simp only [Bool.false_eq_true, if_false]
      rw [textF_esc s _ y hy (by omega)]
      simp only [Out.shift, List.append_assoc, List.singleton_append]
      all_goals (congr 1 <;> omega)
    · rw [he] at h ⊢
      simp only [List.length_cons] at h ⊢
      rw [List.append_assoc, List.cons_append, textF, if_neg (by decide), if_pos rfl, hr]
      simp only [List.drop_succ_cons, List.drop_left]
      rw [textF_esc s _ y hy (by omega)]
      simp only [Out.shift, List.append_assoc, List.singleton_append]
      all_goals (congr 1 <;> omega)
theorem esc_ne {value : Bool} {s : Tx} (h : s ≠ []) : ∃ c t, esc value s = c :: t ∧ c ≠ 60 := by
  cases s with
  | nil => exact absurd rfl h
  | cons c s =>
    rw [esc]
    rcases esc1_cases value c with ⟨e, h1, h2, h3, _⟩ | ⟨e, he, hr, _, _⟩
    · exact ⟨c, esc value s, by rw [e]; rfl, h2⟩
    · exact ⟨38, e ++ esc value s, by rw [he]; rfl, by decide⟩
theorem token_text {s : Tx} (h : s ≠ []) {y : Tx} (hy : y = [] ∨ y.head? = some 60) : Xl.token (esc false s ++ y) = .ok ⟨4, 0, [], s, []⟩ (esc false s).length := by
  obtain ⟨c, t, hc, h6⟩ := esc_ne (value := false) h
  unfold Xl.token
  rw [if_pos (by rw [hc]; simp; exact h6)]
  unfold chars
  rw [textF_esc s [] y hy (by simp; omega)]
  rfl

/-! ### Attributes -/
theorem go_eq : GoesOn (((61 : UInt8).toNat : Nat) : Int) = false := by decide
theorem attr_at {there : List At} {a : At} (h1 : nameR a.1 = true) (h2 : a.1 ∉ there.map (·.1)) (y : Tx) : attr there (a.1 ++ [61, 34] ++ esc true a.2 ++ [34] ++ y) = .ok a (a.1.length + 3 + (esc true a.2).length) := by
  have e : a.1 ++ [61, 34] ++ esc true a.2 ++ [34] ++ y = a.1 ++ 61 :: 34 :: (esc true a.2 ++ 34 :: y) := by simp
  rw [e]
  have hb1 : blanks (61 :: 34 :: (esc true a.2 ++ 34 :: y)) = 0 := blanks_0 (by decide)
  have hb2 : blanks (34 :: (esc true a.2 ++ 34 :: y)) = 0 := blanks_0 (by decide)
  unfold attr
  rw [name_at h1 (by decide) (by decide) (by decide)]
  simp only
  rw [if_neg h2, List.drop_left, hb1, Nat.add_zero, List.drop_left, eat, if_pos rfl, eat]
  simp only [Out.shift]
  have d1 : (a.1 ++ 61 :: 34 :: (esc true a.2 ++ 34 :: y)).drop (a.1.length + (1 + 0)) = 34 :: (esc true a.2 ++ 34 :: y) := by
    rw [← List.drop_drop, List.drop_left]
    rfl
  rw [d1, hb2, Nat.add_zero, d1, value_esc]
  simp only
  all_goals (congr 1 <;> omega)
theorem blanks_1 {c : UInt8} {t : Tx} (h : Qx.blank c = false) : blanks (32 :: c :: t) = 1 := by
  unfold blanks
  rw [List.takeWhile_cons, if_pos (by decide), List.takeWhile_cons, if_neg (by rw [h]; decide)]
  rfl
theorem writeA_len : ∀ l : List At, l.length ≤ (writeA l).length
  | [] => by simp
  | a :: l => by
    have := writeA_len l
    rw [writeA]
    simp
    omega
/-- A tag's attributes and its end. -/
theorem tagF_at {e : Bool} {y : Tx} : ∀ (l there : List At) {f : Nat}, attrsOk (there.map (·.1)) l = true → l.length < f →
    tagF f (writeA l ++ ((if e then [47, 62] else [62]) ++ y)) there = .ok (e, there ++ l) ((writeA l).length + (if e then 2 else 1))
  | _, _, 0, _, h => absurd h (by omega)
  | [], there, f + 1, _, _ => by
    rw [writeA, List.nil_append, List.append_nil]
    cases e with
    | true =>
      have hb : blanks (47 :: 62 :: y) = 0 := blanks_0 (by decide)
      show tagF (f + 1) (47 :: 62 :: y) there = _
      rw [tagF_cons f there (c := 47) (t := 62 :: y) (by rw [hb]; rfl), if_neg (by decide), if_pos rfl, hb]
      rfl
    | false =>
      have hb : blanks (62 :: y) = 0 := blanks_0 (by decide)
      show tagF (f + 1) (62 :: y) there = _
      rw [tagF_cons f there (c := 62) (t := y) (by rw [hb]; rfl), if_pos rfl, hb]
      rfl
  | a :: l, there, f + 1, h, hf => by
    rw [attrsOk, Bool.and_eq_true, Bool.and_eq_true, Bool.and_eq_true, decide_eq_true_eq] at h
    obtain ⟨⟨⟨h1, h2⟩, h3⟩, h4⟩ := h
    obtain ⟨c, t, hc, n1, n2, n3, n4, n5, n6⟩ := nameR_head h1
    obtain ⟨z, hz⟩ : ∃ z, writeA l ++ ((if e then [47, 62] else [62]) ++ y) = z := ⟨_, rfl⟩
    have e1 : writeA (a :: l) ++ ((if e then [47, 62] else [62]) ++ y) = 32 :: (a.1 ++ [61, 34] ++ esc true a.2 ++ [34] ++ z) := by
      rw [writeA, ← hz]
      simp
    have e2 : ∃ t', a.1 ++ [61, 34] ++ esc true a.2 ++ [34] ++ z = c :: t' := ⟨t ++ [61, 34] ++ esc true a.2 ++ [34] ++ z, by rw [hc]; simp⟩
    obtain ⟨t', ht'⟩ := e2
    have hat := attr_at h1 h3 z
    rw [ht'] at hat
    have hb : blanks (32 :: c :: t') = 1 := blanks_1 n6
    rw [e1, ht', tagF_cons f there (c := c) (t := t') (by rw [hb]; rfl), if_neg n4, if_neg n2, hb, if_neg (by decide), hat]
    simp only
    rw [← ht']
    have hd : (a.1 ++ [61, 34] ++ esc true a.2 ++ [34] ++ z).drop (a.1.length + 3 + (esc true a.2).length) = z := by
      have : a.1.length + 3 + (esc true a.2).length = (a.1 ++ [61, 34] ++ esc true a.2 ++ [34]).length := by simp; omega
      rw [this, List.drop_left]
    rw [hd, ← hz, tagF_at l (there ++ [a]) (by rw [List.map_append]; exact h4) (by simp at hf; omega)]
    simp only [Out.shift, List.append_assoc, List.singleton_append]
    congr 1
    rw [writeA]
    simp
    omega
end Go.Proofs.YtokdnhdfmgfkeaaGreatDoor.Xo
end

section
namespace Go.Proofs.YtokdnhdfmgfkeaaGreatDoor.Xo
open Go.RowKit UtfW Qx Xl Xt

theorem hp2 (a b c : UInt8) (t : Tx) : Lib.hasPrefix (a :: c :: t) [a, b] = (b == c) := by
  simp [Lib.hasPrefix, List.isPrefixOf]
theorem tail_head (as_ : List At) (e : Bool) (y : Tx) : ∃ c z, writeA as_ ++ ((if e then [47, 62] else [62]) ++ y) = c :: z ∧ c.toNat < 128 ∧ Utf.Char (c.toNat : Nat) = true ∧ GoesOn (c.toNat : Nat) = false := by
  cases as_ with
  | cons a l =>
    rw [writeA]
    exact ⟨32, _, by simp; rfl, by decide, by decide, by decide⟩
  | nil =>
    cases e with
    | true => exact ⟨47, _, rfl, by decide, by decide, by decide⟩
    | false => exact ⟨62, _, rfl, by decide, by decide, by decide⟩
theorem token_tag {nm : Tx} {as_ : List At} (e : Bool) (y : Tx) (h : nameR nm = true) (ha : attrsOk [] as_ = true) :
    Xl.token (60 :: (nm ++ (writeA as_ ++ ((if e then [47, 62] else [62]) ++ y)))) = .ok ⟨if e then 2 else 1, 0, nm, [], as_⟩ (1 + nm.length + ((writeA as_).length + (if e then 2 else 1))) := by
  obtain ⟨c, t, hc, n1, n2, n3, n4, n5, n6⟩ := nameR_head h
  obtain ⟨c', z, hz, q1, q2, q3⟩ := tail_head as_ e y
  have hf : attrsOk (([] : List At).map (·.1)) as_ = true := ha
  unfold Xl.token
  rw [if_neg (by simp)]
  have hd : (60 :: (nm ++ (writeA as_ ++ ((if e then [47, 62] else [62]) ++ y)))).drop (1 + nm.length) = writeA as_ ++ ((if e then [47, 62] else [62]) ++ y) := by
    rw [Nat.add_comm, List.drop_succ_cons, List.drop_left]
  have e1 : ∃ x, 60 :: (nm ++ (writeA as_ ++ ((if e then [47, 62] else [62]) ++ y))) = 60 :: c :: x := ⟨t ++ (writeA as_ ++ ((if e then [47, 62] else [62]) ++ y)), by rw [hc]; rfl⟩
  obtain ⟨x, hx⟩ := e1
  have p1 : Lib.hasPrefix (60 :: (nm ++ (writeA as_ ++ ((if e then [47, 62] else [62]) ++ y)))) [60, 33] = false := by rw [hx, hp2, beq_eq_false_iff_ne]; exact n1.symm
  have p2 : Lib.hasPrefix (60 :: (nm ++ (writeA as_ ++ ((if e then [47, 62] else [62]) ++ y)))) [60, 63] = false := by rw [hx, hp2, beq_eq_false_iff_ne]; exact n5.symm
  have p3 : Lib.hasPrefix (60 :: (nm ++ (writeA as_ ++ ((if e then [47, 62] else [62]) ++ y)))) [60, 47] = false := by rw [hx, hp2, beq_eq_false_iff_ne]; exact n2.symm
  rw [p1, p2, p3]
  simp only [Bool.false_eq_true, if_false]
  unfold tag
  have hn : name ((60 :: (nm ++ (writeA as_ ++ ((if e then [47, 62] else [62]) ++ y)))).drop 1) = .ok nm nm.length := by
    rw [List.drop_succ_cons, List.drop_zero, hz]
    exact name_at h q1 q2 q3 z
  rw [hn]
  simp only
  rw [hd, tagF_at as_ [] hf (by have := writeA_len as_; simp; omega)]
  simp only [List.nil_append]
theorem token_end {nm : Tx} (h : nameR nm = true) (y : Tx) : Xl.token (60 :: 47 :: (nm ++ 62 :: y)) = .ok ⟨3, 0, nm, [], []⟩ (nm.length + 3) := by
  unfold Xl.token
  rw [if_neg (by simp), hp2, hp2, hp2]
  simp only [show ((33 : UInt8) == 47) = false by decide, show ((63 : UInt8) == 47) = false by decide, show ((47 : UInt8) == 47) = true by decide, Bool.false_eq_true, if_false, if_true]
  unfold Xl.endT
  have hb : blanks (62 :: y) = 0 := blanks_0 (by decide)
  have hd : (60 :: 47 :: (nm ++ 62 :: y)).drop (2 + nm.length) = 62 :: y := by
    rw [← List.drop_drop]
    show (nm ++ 62 :: y).drop nm.length = _
    rw [List.drop_left]
  rw [List.drop_succ_cons, List.drop_succ_cons, List.drop_zero, name_at h (by decide) (by decide) (by decide)]
  simp only
  rw [hd, hb, Nat.add_zero, hd, eat, if_pos rfl, eat]
  simp only [Out.shift]
  all_goals (congr 1 <;> omega)
theorem find_mid {a b : UInt8} {z : Tx} : ∀ {s : Tx}, find [a, b] s = none → (a ≠ b ∨ s.getLast? ≠ some a) → find [a, b] (s ++ a :: b :: z) = some s.length
  | [], _, _ => by
    rw [List.nil_append, find, if_pos (by simp [List.isPrefixOf])]
    rfl
  | c :: s, h, hl => by
    rw [find] at h
    split at h
    · cases h
    · rename_i hp
      have hs : find [a, b] s = none := by
        cases hs : find [a, b] s with
        | none => rfl
        | some n => rw [hs] at h; cases h
      rw [List.cons_append, find, if_neg, find_mid hs]
      · rfl
      · rcases hl with hl | hl
        · exact .inl hl
        · cases s with
          | nil => exact .inr (by simp)
          | cons d s => exact .inr (by rw [List.getLast?_cons_cons] at hl; exact hl)
      · intro hq
        cases s with
        | nil =>
          simp [List.isPrefixOf] at hq
          rcases hl with hl | hl
          · exact hl hq.2.symm
          · exact hl (by simp [hq.1])
        | cons d s =>
          apply hp
          simpa [List.isPrefixOf] using hq
theorem upto_mid {a b : UInt8} {z s : Tx} (h : find [a, b] s = none) (hl : a ≠ b ∨ s.getLast? ≠ some a) : upto [a, b] (s ++ a :: b :: z) = .ok s (s.length + 2) := by
  unfold upto
  rw [find_mid h hl]
  simp only
  rw [List.take_left]
  rfl
theorem lines_id {s : Tx} (h : 13 ∉ s) : Utf.lines s = s := by
  have := lines_app h []
  rw [List.append_nil] at this
  rw [this]
  simp [Utf.lines]
theorem token_comment {s : Tx} (h1 : 13 ∉ s) (h2 : find [45, 45] s = none) (h3 : s.getLast? ≠ some 45) (y : Tx) : Xl.token (60 :: 33 :: 45 :: 45 :: (s ++ 45 :: 45 :: 62 :: y)) = .ok ⟨6, 0, [], s, []⟩ (s.length + 7) := by
  unfold Xl.token
  rw [if_neg (by simp), hp2]
  simp only [show ((33 : UInt8) == 33) = true by decide, if_true]
  unfold Xl.mark
  have hp : Lib.hasPrefix (60 :: 33 :: 45 :: 45 :: (s ++ 45 :: 45 :: 62 :: y)) cmT = true := by simp [Lib.hasPrefix, cmT, List.isPrefixOf]
  rw [hp, if_pos rfl]
  unfold comment
  have hd : (60 :: 33 :: 45 :: 45 :: (s ++ 45 :: 45 :: 62 :: y)).drop 4 = s ++ 45 :: 45 :: 62 :: y := rfl
  have hd2 : (60 :: 33 :: 45 :: 45 :: (s ++ 45 :: 45 :: 62 :: y)).drop (4 + (s.length + 2)) = 62 :: y := by
    rw [← List.drop_drop, hd, ← List.drop_drop, List.drop_left]
    rfl
  rw [hd, upto_mid h2 (.inr h3)]
  simp only
  rw [hd2]
  simp only [if_true]
  rw [lines_id h1]
  all_goals (congr 1 <;> omega)
theorem pi_head (s y : Tx) : ∃ c z, (if s = [] then [] else 32 :: s) ++ 63 :: 62 :: y = c :: z ∧ c.toNat < 128 ∧ Utf.Char (c.toNat : Nat) = true ∧ GoesOn (c.toNat : Nat) = false := by
  split
  · exact ⟨63, _, rfl, by decide, by decide, by decide⟩
  · exact ⟨32, _, rfl, by decide, by decide, by decide⟩
theorem token_pi {nm s : Tx} (h : nameR nm = true) (hx : nm.map low ≠ xml3) (h1 : 13 ∉ s) (h2 : find [63, 62] s = none) (h3 : headOk s = true) (y : Tx) :
    Xl.token (60 :: 63 :: (nm ++ ((if s = [] then [] else 32 :: s) ++ 63 :: 62 :: y))) = .ok ⟨7, 0, nm, s, []⟩ (2 + nm.length + ((if s = [] then 0 else 1 + s.length) + 2)) := by
  unfold Xl.token
  rw [if_neg (by simp), hp2, hp2]
  simp only [show ((33 : UInt8) == 63) = false by decide, show ((63 : UInt8) == 63) = true by decide, Bool.false_eq_true, if_false, if_true]
  unfold instr
  obtain ⟨c, z, hz, q1, q2, q3⟩ := pi_head s y
  have hn : name ((60 :: 63 :: (nm ++ ((if s = [] then [] else 32 :: s) ++ 63 :: 62 :: y))).drop 2) = .ok nm nm.length := by
    rw [List.drop_succ_cons, List.drop_succ_cons, List.drop_zero, hz]
    exact name_at h q1 q2 q3 z
  have hd : (60 :: 63 :: (nm ++ ((if s = [] then [] else 32 :: s) ++ 63 :: 62 :: y))).drop (2 + nm.length) = (if s = [] then [] else 32 :: s) ++ 63 :: 62 :: y := by
    rw [← List.drop_drop]
    show (nm ++ _).drop nm.length = _
    rw [List.drop_left]
  rw [hn]
  simp only
  rw [hd, if_neg (show ¬ nm.map low = [120, 109, 108] from hx)]
  by_cases hs : s = []
  · subst hs
    have hb : blanks (63 :: 62 :: y) = 0 := blanks_0 (by decide)
    simp only [if_true, List.nil_append]
    rw [if_pos hb, eat, if_pos rfl, eat, if_pos rfl, eat]
    simp only [Out.shift]
    all_goals (congr 1 <;> omega)
  · rw [if_neg hs]
    cases s with
    | nil => exact absurd rfl hs
    | cons d s =>
      have hd8 : Qx.blank d = false := by
        unfold headOk at h3
        simpa using h3
      have hb : blanks (32 :: (d :: s) ++ 63 :: 62 :: y) = 1 := blanks_1 hd8
      rw [if_neg hs] at hd
      rw [hb, if_neg (by decide), ← List.drop_drop, hd]
      have hd2 : (32 :: (d :: s) ++ 63 :: 62 :: y).drop 1 = (d :: s) ++ 63 :: 62 :: y := rfl
      rw [hd2, upto_mid h2 (.inl (by decide))]
      simp only
      rw [lines_id h1, if_neg hs]
      all_goals (congr 1 <;> omega)

/-! ### Trees as tokens -/
mutual
def toksN : Nd → List Xl.Tok
  | .mk k nm tx as_ ks =>
    if k = 1 then (if ks.isEmpty then [⟨2, 0, nm, [], as_⟩] else ⟨1, 0, nm, [], as_⟩ :: (toksL ks ++ [⟨3, 0, nm, [], []⟩]))
    else if k = 2 then [⟨4, 0, [], tx, []⟩]
    else if k = 3 then [⟨6, 0, [], tx, []⟩]
    else [⟨7, 0, nm, tx, []⟩]
def toksL : List Nd → List Xl.Tok
  | [] => []
  | x :: xs => toksN x ++ toksL xs
end
def strip (t : Xl.Tok) : Xl.Tok := { t with at_ := 0 }
theorem run_one {p y : Tx} {t : Xl.Tok} (h : Xl.token (p ++ y) = .ok t p.length) (hp : p ≠ []) (f k : Nat) (ts : List Xl.Tok) : Xl.runF (f + 1) (p ++ y) k ts = Xl.runF f y (k + p.length) (ts ++ [{ t with at_ := k }]) := by
  rw [Xl.runF, if_neg (by simp [hp]), h]
  simp only
  rw [List.drop_left]
theorem run_end (f k : Nat) (ts : List Xl.Tok) : Xl.runF f [] k ts = (0, 0, ts) := by
  cases f with
  | zero => rfl
  | succ f => rw [Xl.runF, if_pos rfl]
/-- The text p is the tokens us, whatever stands behind. -/
def Reads_ (p y : Tx) (us : List Xl.Tok) : Prop := ∃ vs : List Xl.Tok, vs.map strip = us ∧ vs.length ≤ p.length ∧ ∀ (f k : Nat) (ts : List Xl.Tok), ∃ zs : List Xl.Tok, zs.map strip = us ∧ zs.length = vs.length ∧ Xl.runF (f + vs.length) (p ++ y) k ts = Xl.runF f y (k + p.length) (ts ++ zs)
theorem Reads_.nil (y : Tx) : Reads_ [] y [] := ⟨[], rfl, Nat.le_refl _, fun f k ts => ⟨[], rfl, rfl, by simp⟩⟩
theorem Reads_.one {p y : Tx} {t : Xl.Tok} (h : Xl.token (p ++ y) = .ok t p.length) (hp : p ≠ []) : Reads_ p y [strip t] :=
  ⟨[t], rfl, by cases p with | nil => exact absurd rfl hp | cons c p => simp, fun f k ts => ⟨[{ t with at_ := k }], rfl, rfl, run_one h hp f k ts⟩⟩
theorem Reads_.append {p q y : Tx} {us ws : List Xl.Tok} (h1 : Reads_ p (q ++ y) us) (h2 : Reads_ q y ws) : Reads_ (p ++ q) y (us ++ ws) := by
  obtain ⟨vs, e1, l1, g1⟩ := h1
  obtain ⟨xs, e2, l2, g2⟩ := h2
  refine ⟨vs ++ xs, by rw [List.map_append, e1, e2], by simp; omega, fun f k ts => ?_⟩
  obtain ⟨zs, a1, a2, a3⟩ := g1 (f + xs.length) k ts
  obtain ⟨zs', b1, b2, b3⟩ := g2 f (k + p.length) (ts ++ zs)
  refine ⟨zs ++ zs', by rw [List.map_append, a1, b1], by simp [a2, b2], ?_⟩
  rw [List.length_append, List.length_append, List.append_assoc, show f + (vs.length + xs.length) = f + xs.length + vs.length by omega, a3, b3, List.append_assoc, Nat.add_assoc]
theorem head60 : ∀ {n : Nd}, fairN n = true → n.kind ≠ 2 → ∃ t, writeN n = 60 :: t
  | .mk k nm tx as_ ks, h, hk => by
    have hk : k ≠ 2 := hk
    rw [writeN]
    split
    · exact ⟨_, rfl⟩
    · split
      · exact ⟨_, rfl⟩
      · split
        · exact ⟨_, rfl⟩
        · rw [fairN] at h
          simp_all
mutual
theorem reads_N : ∀ (n : Nd), fairN n = true → ∀ y : Tx, (n.kind = 2 → y = [] ∨ y.head? = some 60) → Reads_ (writeN n) y (toksN n)
  | .mk k nm tx as_ ks, h, y, hy => by
    rw [fairN] at h
    rw [writeN, toksN]
    by_cases h1 : k = 1
    · rw [if_pos h1] at h ⊢
      rw [if_pos h1]
      simp only [Bool.and_eq_true] at h
      obtain ⟨⟨⟨hn, _⟩, ha⟩, hk⟩ := h
      by_cases hks : ks.isEmpty = true
      · rw [if_pos hks, if_pos hks]
        have := token_tag true y hn ha
        refine Reads_.one (t := ⟨2, 0, nm, [], as_⟩) ?_ (by simp)
        rw [show 60 :: nm ++ writeA as_ ++ [47, 62] ++ y = 60 :: (nm ++ (writeA as_ ++ ([47, 62] ++ y))) by simp]
        simp only [if_true] at this
        rw [this]
        congr 1
        simp
        omega
      · rw [if_neg hks, if_neg hks]
        have e1 : 60 :: nm ++ writeA as_ ++ ([62] ++ writeL ks ++ ([60, 47] ++ nm ++ [62])) = (60 :: nm ++ writeA as_ ++ [62]) ++ (writeL ks ++ ([60, 47] ++ nm ++ [62])) := by simp
        rw [e1]
        have hlast : Reads_ ([60, 47] ++ nm ++ [62]) y [⟨3, 0, nm, [], []⟩] := by
          have := token_end hn y
          refine Reads_.one (t := ⟨3, 0, nm, [], []⟩) ?_ (by simp)
          rw [show [60, 47] ++ nm ++ [62] ++ y = 60 :: 47 :: (nm ++ 62 :: y) by simp, this]
          congr 1
          simp
        have hmid := reads_L ks 0 hk ([60, 47] ++ nm ++ [62] ++ y) (.inr (by simp))
        have hfirst : Reads_ (60 :: nm ++ writeA as_ ++ [62]) (writeL ks ++ ([60, 47] ++ nm ++ [62]) ++ y) [⟨1, 0, nm, [], as_⟩] := by
          have := token_tag false (writeL ks ++ ([60, 47] ++ nm ++ [62]) ++ y) hn ha
          refine Reads_.one (t := ⟨1, 0, nm, [], as_⟩) ?_ (by simp)
          simp only [Bool.false_eq_true, if_false] at this
          rw [show 60 :: nm ++ writeA as_ ++ [62] ++ (writeL ks ++ ([60, 47] ++ nm ++ [62]) ++ y) = 60 :: (nm ++ (writeA as_ ++ ([62] ++ (writeL ks ++ ([60, 47] ++ nm ++ [62]) ++ y)))) by simp, this]
          congr 1
          simp
          omega
        exact hfirst.append (hmid.append hlast)
    · rw [if_neg h1] at h ⊢
      rw [if_neg h1]
      by_cases h2 : k = 2
      · rw [if_pos h2] at h ⊢
        rw [if_pos h2]
        simp only [Bool.and_eq_true, decide_eq_true_eq] at h
        exact Reads_.one (t := ⟨4, 0, [], tx, []⟩) (token_text h.1.2 (hy h2)) (by obtain ⟨c, t, e, _⟩ := esc_ne (value := false) h.1.2; rw [e]; simp)
      · rw [if_neg h2] at h ⊢
        rw [if_neg h2]
        by_cases h3 : k = 3
        · rw [if_pos h3] at h ⊢
          rw [if_pos h3]
          simp only [Bool.and_eq_true, decide_eq_true_eq, plainT, Option.isNone_iff_eq_none] at h
          obtain ⟨⟨⟨_, _, g1⟩, g2⟩, g3⟩ := h
          have := token_comment g1 g2 g3 y
          refine Reads_.one (t := ⟨6, 0, [], tx, []⟩) ?_ (by simp)
          rw [show [60, 33, 45, 45] ++ tx ++ [45, 45, 62] ++ y = 60 :: 33 :: 45 :: 45 :: (tx ++ 45 :: 45 :: 62 :: y) by simp, this]
          congr 1
          simp
        · rw [if_neg h3] at h ⊢
          rw [if_neg h3]
          by_cases h4 : k = 4
          · rw [if_pos h4] at h ⊢
            simp only [Bool.and_eq_true, decide_eq_true_eq, plainT, Option.isNone_iff_eq_none] at h
            obtain ⟨⟨⟨⟨⟨_, g0⟩, g00⟩, _, g1⟩, g2⟩, g3⟩ := h
            have := token_pi g0 g00 g1 g2 g3 y
            refine Reads_.one (t := ⟨7, 0, nm, tx, []⟩) ?_ (by simp)
            rw [show [60, 63] ++ nm ++ (if tx = [] then [] else 32 :: tx) ++ [63, 62] ++ y = 60 :: 63 :: (nm ++ ((if tx = [] then [] else 32 :: tx) ++ 63 :: 62 :: y)) by simp, this]
            congr 1
            split <;> simp <;> omega
          · rw [if_neg h4] at h
            cases h
theorem reads_L : ∀ (ks : List Nd) (was : Int), fairL was ks = true → ∀ y : Tx, (y = [] ∨ y.head? = some 60) → Reads_ (writeL ks) y (toksL ks)
  | [], _, _, y, _ => by
    rw [writeL, toksL]
    exact Reads_.nil y
  | x :: xs, was, h, y, hy => by
    rw [fairL] at h
    simp only [Bool.and_eq_true] at h
    obtain ⟨⟨hx, _⟩, hxs⟩ := h
    rw [writeL, toksL]
    refine Reads_.append (reads_N x hx (writeL xs ++ y) fun h2 => ?_) (reads_L xs x.kind hxs y hy)
    cases xs with
    | nil => rw [writeL]; exact hy
    | cons z zs =>
      rw [fairL, h2] at hxs
      simp only [Bool.and_eq_true, Bool.not_eq_true', Bool.and_eq_false_iff, decide_eq_false_iff_not, decide_true, Bool.true_eq_false, false_or] at hxs
      obtain ⟨⟨hz, hz2⟩, _⟩ := hxs
      obtain ⟨t, ht⟩ := head60 hz (by simpa using hz2)
      exact .inr (by rw [writeL, ht]; rfl)
end
end Go.Proofs.YtokdnhdfmgfkeaaGreatDoor.Xo
end

section
namespace Go.Proofs.YtokdnhdfmgfkeaaGreatDoor.Xo
open Go.RowKit UtfW Qx Xl Xt

/-! ### What is written is valid -/
theorem esc_append (value : Bool) : ∀ a b : Tx, esc value (a ++ b) = esc value a ++ esc value b
  | [], b => rfl
  | c :: a, b => by rw [List.cons_append, esc, esc, esc_append value a b, List.append_assoc]
theorem esc1_high {value : Bool} {c : UInt8} (h : 128 ≤ c.toNat) : esc1 value c = [c] := by
  have hne : ∀ x : UInt8, x.toNat < 128 → c ≠ x := fun x hx e => by rw [e] at h; omega
  unfold esc1
  rw [if_neg (hne 38 (by decide)), if_neg (hne 60 (by decide)), if_neg (hne 13 (by decide)), if_neg (fun e => hne 62 (by decide) e.1), if_neg (fun e => hne 34 (by decide) e.1), if_neg (fun e => hne 9 (by decide) e.1), if_neg (fun e => hne 10 (by decide) e.1)]
theorem esc_high {value : Bool} : ∀ l : Tx, (∀ b ∈ l, 128 ≤ b.toNat) → esc value l = l
  | [], _ => rfl
  | c :: l, h => by rw [esc, esc1_high (h c (List.mem_cons_self ..)), esc_high l fun b hb => h b (List.mem_cons_of_mem _ hb)]; rfl
theorem esc_V {value : Bool} {s : Tx} (h : V s) : V (esc value s) := by
  obtain ⟨rs, hr, rfl⟩ := h
  induction rs with
  | nil => exact V.nil
  | cons r rs ih =>
    have hc := hr r (List.mem_cons_self ..)
    rw [E_cons, esc_append]
    refine V.append ?_ (ih fun x hx => hr x (List.mem_cons_of_mem _ hx))
    rcases enc_bytes (isRune_of_char hc) with ⟨h8, h1⟩ | h1
    · have ht : (UInt8.ofNat r).toNat = r := by rw [UInt8.toNat_ofNat']; omega
      rw [h1, esc, esc, List.append_nil]
      rcases esc1_cases value (UInt8.ofNat r) with ⟨e, _⟩ | ⟨e, he, _, _, h4, _⟩
      · rw [e]
        exact V.one (by omega) (by rw [ht]; exact hc)
      · rw [he]
        exact V.all fun c hm => by
          rcases List.mem_cons.1 hm with rfl | hm
          · decide
          · exact h4 c hm
    · rw [esc_high _ h1]
      exact V.enc hc
theorem V_writeA : ∀ (l : List At) (seen : List Tx), attrsOk seen l = true → V (writeA l)
  | [], _, _ => V.nil
  | a :: l, seen, h => by
    rw [attrsOk] at h
    simp only [Bool.and_eq_true] at h
    obtain ⟨⟨⟨h1, h2⟩, _⟩, h4⟩ := h
    rw [writeA]
    have e : 32 :: a.1 ++ [61, 34] ++ esc true a.2 ++ [34] = [32] ++ (a.1 ++ ([61, 34] ++ (esc true a.2 ++ [34]))) := by simp
    rw [e]
    exact (V.append (V.all (l := [32]) (by decide)) (V.append (nameR_V h1) (V.append (V.all (l := [61, 34]) (by decide)) (V.append (esc_V (good_V h2)) (V.all (l := [34]) (by decide)))))).append (V_writeA l _ h4)
mutual
theorem V_writeN : ∀ n : Nd, fairN n = true → V (writeN n)
  | .mk k nm tx as_ ks, h => by
    rw [fairN] at h
    rw [writeN]
    by_cases h1 : k = 1
    · rw [if_pos h1] at h ⊢
      simp only [Bool.and_eq_true] at h
      obtain ⟨⟨⟨hn, _⟩, ha⟩, hk⟩ := h
      have v1 := nameR_V hn
      have v2 := V_writeA _ _ ha
      have e : ∀ z : Tx, 60 :: nm ++ writeA as_ ++ z = [60] ++ (nm ++ (writeA as_ ++ z)) := fun z => by simp
      rw [e]
      refine V.append (V.all (l := [60]) (by decide)) (V.append v1 (V.append v2 ?_))
      split
      · exact V.all (l := [47, 62]) (by decide)
      · have v3 := V_writeL ks _ hk
        exact V.append (V.append (V.all (l := [62]) (by decide)) v3) (V.append (V.append (V.all (l := [60, 47]) (by decide)) v1) (V.all (l := [62]) (by decide)))
    · rw [if_neg h1] at h ⊢
      by_cases h2 : k = 2
      · rw [if_pos h2] at h ⊢
        simp only [Bool.and_eq_true] at h
        exact esc_V (good_V h.2)
      · rw [if_neg h2] at h ⊢
        by_cases h3 : k = 3
        · rw [if_pos h3] at h ⊢
          simp only [Bool.and_eq_true, plainT] at h
          exact V.append (V.append (V.all (l := [60, 33, 45, 45]) (by decide)) (good_V h.1.1.2.1)) (V.all (l := [45, 45, 62]) (by decide))
        · rw [if_neg h3] at h ⊢
          by_cases h4 : k = 4
          · rw [if_pos h4] at h ⊢
            simp only [Bool.and_eq_true, plainT] at h
            obtain ⟨⟨⟨⟨⟨_, g0⟩, _⟩, g1, _⟩, _⟩, _⟩ := h
            refine V.append (V.append (V.append (V.all (l := [60, 63]) (by decide)) (nameR_V g0)) ?_) (V.all (l := [63, 62]) (by decide))
            split
            · exact V.nil
            · exact V.append (V.all (l := [32]) (by decide)) (good_V g1)
          · rw [if_neg h4] at h
            cases h
theorem V_writeL : ∀ (ks : List Nd) (was : Int), fairL was ks = true → V (writeL ks)
  | [], _, _ => by rw [writeL]; exact V.nil
  | x :: xs, was, h => by
    rw [fairL] at h
    simp only [Bool.and_eq_true] at h
    rw [writeL]
    exact V.append (V_writeN x h.1.1) (V_writeL xs _ h.2)
end

/-! ### No declaration -/
theorem decl_of {S : Tx} (h : Lib.hasPrefix S xmlT = true → GoesOn (nx (S.drop 5) 0).1 = true) : decl S = .ok () 0 := by
  unfold decl
  rw [if_neg]
  rintro ⟨hp, hg⟩
  rw [h hp] at hg
  cases hg
theorem E_byte {rs : List Nat} {c : UInt8} {t : Tx} (hr : ∀ r ∈ rs, Utf.Char (r : Nat) = true) (h : E rs = c :: t) (hc : c.toNat < 128) : ∃ rs', rs = c.toNat :: rs' ∧ t = E rs' := by
  cases rs with
  | nil => cases h
  | cons r rs =>
    have hv := isRune_of_char (hr r (List.mem_cons_self ..))
    rw [E_cons] at h
    rcases enc_bytes hv with ⟨h8, h1⟩ | h1
    · rw [h1] at h
      injection h with e1 e2
      have ht : (UInt8.ofNat r).toNat = r := by rw [UInt8.toNat_ofNat']; omega
      exact ⟨rs, by rw [← e1, ht], e2.symm⟩
    · have hp := encB_pos hv
      cases hE : encB (r : Nat) with
      | nil => rw [hE] at hp; simp at hp
      | cons b l =>
        rw [hE] at h h1
        injection h with e1 _
        have := h1 b (List.mem_cons_self ..)
        rw [e1] at this
        omega
theorem decl_pi {nm : Tx} (h : nameR nm = true) (hx : nm.map low ≠ xml3) {c : UInt8} (hc : c = 63 ∨ c = 32) (z : Tx) : decl (60 :: 63 :: (nm ++ c :: z)) = .ok () 0 := by
  refine decl_of fun hp => ?_
  obtain ⟨x, e⟩ := hp_cut hp
  unfold xmlT at e
  have e : nm ++ c :: z = 120 :: 109 :: 108 :: x := by
    simp only [List.cons_append, List.nil_append] at e
    injection e with _ e
    injection e
  have hd : (60 :: 63 :: (nm ++ c :: z)).drop 5 = x := by rw [e]; rfl
  rw [hd]
  obtain ⟨rs, hE, h0, hr, hg, _⟩ := nameR_runes h
  rw [hE] at e hx
  have hcne : c ≠ 109 ∧ c ≠ 108 := by rcases hc with rfl | rfl <;> decide
  cases e1 : E rs with
  | nil =>
    cases rs with
    | nil => exact absurd rfl h0
    | cons r rs =>
      have := E_ge hr
      rw [e1] at this
      simp at this
  | cons a t1 =>
    rw [e1] at e
    injection e with ea e
    subst ea
    obtain ⟨rs1, q1, rfl⟩ := E_byte hr e1 (by decide)
    have hr1 : ∀ r ∈ rs1, Utf.Char (r : Nat) = true := fun r hm => hr r (by rw [q1]; exact List.mem_cons_of_mem _ hm)
    cases e2 : E rs1 with
    | nil =>
      rw [e2] at e
      injection e with e _
      exact absurd e hcne.1
    | cons a t2 =>
      rw [e2] at e
      injection e with ea e
      subst ea
      obtain ⟨rs2, q2, rfl⟩ := E_byte hr1 e2 (by decide)
      have hr2 : ∀ r ∈ rs2, Utf.Char (r : Nat) = true := fun r hm => hr1 r (by rw [q2]; exact List.mem_cons_of_mem _ hm)
      cases e3 : E rs2 with
      | nil =>
        rw [e3] at e
        injection e with e _
        exact absurd e hcne.2
      | cons a t3 =>
        rw [e3] at e
        injection e with ea e
        subst ea
        obtain ⟨rs3, q3, rfl⟩ := E_byte hr2 e3 (by decide)
        have hr3 : ∀ r ∈ rs3, Utf.Char (r : Nat) = true := fun r hm => hr2 r (by rw [q3]; exact List.mem_cons_of_mem _ hm)
        cases rs3 with
        | nil =>
          rw [e1, e2, e3] at hx
          exact absurd (by decide) hx
        | cons r rs4 =>
          have e : encB (r : Nat) ++ (E rs4 ++ c :: z) = x := by rw [← e, E_cons]; simp
          rw [← e, nx_E (hr3 r (List.mem_cons_self ..))]
          exact hg r (by rw [q1, q2, q3]; simp)
theorem decl_2 {c : UInt8} (h : c ≠ 63) (t : Tx) : decl (60 :: c :: t) = .ok () 0 := by
  refine decl_of fun hp => ?_
  obtain ⟨x, e⟩ := hp_cut hp
  unfold xmlT at e
  simp only [List.cons_append] at e
  injection e with _ e
  injection e with e _
  exact absurd e h
theorem decl_N : ∀ {n : Nd}, fairN n = true → n.kind ≠ 2 → ∀ y : Tx, decl (writeN n ++ y) = .ok () 0
  | .mk k nm tx as_ ks, h, hk, y => by
    have hk : k ≠ 2 := hk
    rw [fairN] at h
    rw [writeN]
    by_cases h1 : k = 1
    · rw [if_pos h1] at h ⊢
      simp only [Bool.and_eq_true] at h
      obtain ⟨⟨⟨hn, _⟩, ha⟩, _⟩ := h
      obtain ⟨c, t, hc, n1, n2, n3, n4, n5, n6⟩ := nameR_head hn
      rw [hc]
      exact decl_2 n5 _
    · rw [if_neg h1] at h ⊢
      rw [if_neg hk] at h ⊢
      by_cases h3 : k = 3
      · rw [if_pos h3]
        exact decl_2 (by decide) _
      · rw [if_neg h3] at h ⊢
        by_cases h4 : k = 4
        · rw [if_pos h4] at h ⊢
          simp only [Bool.and_eq_true, decide_eq_true_eq] at h
          obtain ⟨⟨⟨⟨⟨_, g0⟩, g00⟩, _⟩, _⟩, _⟩ := h
          obtain ⟨c, z, hz, hc⟩ : ∃ c z, (if tx = [] then [] else 32 :: tx) ++ 63 :: 62 :: y = c :: z ∧ (c = 63 ∨ c = 32) := by
            split
            · exact ⟨63, _, rfl, .inl rfl⟩
            · exact ⟨32, _, rfl, .inr rfl⟩
          rw [show [60, 63] ++ nm ++ (if tx = [] then [] else 32 :: tx) ++ [63, 62] ++ y = 60 :: 63 :: (nm ++ ((if tx = [] then [] else 32 :: tx) ++ 63 :: 62 :: y)) by simp, hz]
          exact decl_pi g0 g00 hc z
        · rw [if_neg h4] at h
          cases h

/-! ### The builder -/
section
variable {B A : List Nd} {R : Nd} {nm : Tx} {as_ : List At} {kk : List Nd} {F : List Fr} {p : Tx} {N : Nat}
def fl (kk : List Nd) (p : Tx) : List Nd := if p = [] then kk else kk ++ [textN p]
def S_ (B : List Nd) (R : Nd) (A : List Nd) (nm : Tx) (as_ : List At) (kk : List Nd) (F : List Fr) (p : Tx) (N : Nat) : St := ⟨B, R, true, A, ⟨nm, as_, kk⟩ :: F, p, N⟩
theorem flush_S : flush (S_ B R A nm as_ kk F p N) = S_ B R A nm as_ (fl kk p) F [] N := by
  unfold flush fl
  by_cases h : p = []
  · rw [if_pos (show (S_ B R A nm as_ kk F p N).text = [] from h), if_pos h, h]
  · rw [if_neg (show ¬ (S_ B R A nm as_ kk F p N).text = [] from h), if_neg h]
    rfl
theorem put_S (n : Nd) : put (S_ B R A nm as_ kk F p N) n = S_ B R A nm as_ (kk ++ [n]) F p N := rfl
theorem start_S {t : Xl.Tok} (h1 : F.length + 2 ≤ 32) (h2 : N + (1 + t.attrs.length) ≤ 4096) : startT (S_ B R A nm as_ kk F p N) t = .ok (S_ B R A t.name t.attrs [] (⟨nm, as_, fl kk p⟩ :: F) [] (N + (1 + t.attrs.length))) := by
  unfold startT
  rw [if_neg (by show ¬ 32 ≤ F.length + 1; omega), if_neg (by show ¬ 4096 < N + (1 + t.attrs.length); omega), if_neg (fun e => by cases e.1)]
  have hf : flush { S_ B R A nm as_ kk F p N with nodes := N + (1 + t.attrs.length) } = S_ B R A nm as_ (fl kk p) F [] (N + (1 + t.attrs.length)) := flush_S
  simp only
  show Except.ok _ = _
  rw [show ({ S_ B R A nm as_ kk F p N with nodes := (S_ B R A nm as_ kk F p N).nodes + (1 + t.attrs.length) } : St) = { S_ B R A nm as_ kk F p N with nodes := N + (1 + t.attrs.length) } from rfl, hf]
  rfl
theorem end_S {nm' : Tx} {as' : List At} {kk' : List Nd} {p' : Tx} : Xt.endT (S_ B R A nm' as' kk' (⟨nm, as_, kk⟩ :: F) p' N) = S_ B R A nm as_ (kk ++ [.mk 1 nm' [] as' (fl kk' p')]) F [] N := by
  unfold Xt.endT
  rw [flush_S]
  rfl
theorem end_0 {nm' : Tx} {as' : List At} {kk' : List Nd} {p' : Tx} : Xt.endT (S_ B R A nm' as' kk' [] p' N) = ⟨B, .mk 1 nm' [] as' (fl kk' p'), true, A, [], [], N⟩ := by
  unfold Xt.endT
  rw [flush_S]
  rfl
theorem run_step {s s' : St} {t : Xl.Tok} {l : List Xl.Tok} (h : Xt.stepT s t = .ok s') : Xt.runT (t :: l) s = Xt.runT l s' := by
  rw [Xt.runT, h]
theorem isEmpty_nil {α : Type} {l : List α} (h : l.isEmpty = true) : l = [] := by cases l with | nil => rfl | cons a l => cases h
theorem other_S {t : Xl.Tok} {k : Int} (h : N + 1 ≤ 4096) : otherT (S_ B R A nm as_ kk F p N) t k = .ok (S_ B R A nm as_ (fl kk p ++ [.mk k t.name t.text [] []]) F [] (N + 1)) := by
  unfold otherT
  rw [if_neg (by show ¬ 4096 < N + 1; omega)]
  have hf : flush { S_ B R A nm as_ kk F p N with nodes := N + 1 } = S_ B R A nm as_ (fl kk p) F [] (N + 1) := flush_S
  rw [show ({ S_ B R A nm as_ kk F p N with nodes := (S_ B R A nm as_ kk F p N).nodes + 1 } : St) = { S_ B R A nm as_ kk F p N with nodes := N + 1 } from rfl, hf]
  rfl
theorem other_0 {h : Bool} {t : Xl.Tok} {k : Int} (hk : k ≠ 1) (hN : N + 1 ≤ 4096) : otherT ⟨B, R, h, A, [], [], N⟩ t k = .ok (if h then ⟨B, R, h, A ++ [.mk k t.name t.text [] []], [], [], N + 1⟩ else ⟨B ++ [.mk k t.name t.text [] []], R, h, A, [], [], N + 1⟩) := by
  unfold otherT
  rw [if_neg (by show ¬ 4096 < N + 1; omega)]
  have hk' : ¬ (Nd.mk k t.name t.text [] []).kind = 1 := hk
  unfold flush put
  simp only [if_true]
  rw [if_neg hk']
  all_goals (cases h <;> rfl)
mutual
theorem build_N : ∀ (n : Nd), fairN n = true → ∀ (B : List Nd) (R : Nd) (A : List Nd) (nm : Tx) (as_ : List At) (kk : List Nd) (F : List Fr) (p : Tx) (N : Nat), (n.kind = 2 → p = []) → F.length + 1 + depthN n ≤ 32 → N + countN n ≤ 4096 →
    ∀ l, ∃ kk' p', fl kk' p' = fl kk p ++ [n] ∧ (n.kind ≠ 2 → p' = []) ∧ Xt.runT (toksN n ++ l) (S_ B R A nm as_ kk F p N) = Xt.runT l (S_ B R A nm as_ kk' F p' (N + countN n))
  | .mk k nm' tx as' ks, h, B, R, A, nm, as_, kk, F, p, N, hp, hd, hc, l => by
    rw [fairN] at h
    rw [toksN]
    rw [depthN] at hd
    rw [countN] at hc ⊢
    by_cases h1 : k = 1
    · subst h1
      rw [if_pos rfl] at h hd ⊢
      simp only [Bool.and_eq_true, decide_eq_true_eq] at h
      obtain ⟨⟨⟨hn, htx⟩, ha⟩, hk⟩ := h
      subst htx
      by_cases hks : ks.isEmpty = true
      · rw [if_pos hks]
        have hks := isEmpty_nil hks
        subst hks
        rw [countL] at hc ⊢
        rw [depthL] at hd
        refine ⟨fl kk p ++ [.mk 1 nm' [] as' []], [], by unfold fl; rw [if_pos rfl], fun _ => rfl, ?_⟩
        refine run_step ?_
        unfold Xt.stepT
        rw [if_neg (by simp), if_pos rfl, start_S (by omega) (by simp; omega)]
        show Except.ok (Xt.endT _) = _
        rw [end_S]
        rfl
      · rw [if_neg hks]
        obtain ⟨kk2, p2, g1, g2⟩ := build_L ks 0 hk B R A nm' as' [] (⟨nm, as_, fl kk p⟩ :: F) [] (N + (1 + as'.length)) (fun e => absurd rfl e) (by simp; omega) (by omega) (⟨3, 0, nm', [], []⟩ :: l)
        refine ⟨fl kk p ++ [.mk 1 nm' [] as' ks], [], by unfold fl; rw [if_pos rfl], fun _ => rfl, ?_⟩
        rw [List.cons_append, List.append_assoc, List.singleton_append, run_step (s' := S_ B R A nm' as' [] (⟨nm, as_, fl kk p⟩ :: F) [] (N + (1 + as'.length)))]
        · rw [g2, run_step (s' := S_ B R A nm as_ (fl kk p ++ [.mk 1 nm' [] as' ks]) F [] (N + (1 + as'.length) + countL ks))]
          · rw [Nat.add_assoc N]
          · unfold Xt.stepT
            rw [if_neg (by simp), if_neg (by simp), if_pos rfl]
            show (if nm' = nm' then Except.ok (Xt.endT _) else _) = _
            rw [if_pos rfl, end_S, g1]
            rfl
        · unfold Xt.stepT
          rw [if_pos rfl, start_S (by omega) (by simp; omega)]
    · rw [if_neg h1] at h hd ⊢
      by_cases h2 : k = 2
      · subst h2
        rw [if_pos rfl] at h ⊢
        simp only [Bool.and_eq_true, decide_eq_true_eq] at h
        obtain ⟨⟨⟨⟨g1, g2⟩, g3⟩, g4⟩, _⟩ := h
        have g1 := isEmpty_nil g1
        have g2 := isEmpty_nil g2
        subst g1; subst g2; subst g3
        have hp := hp rfl
        subst hp
        rw [countL] at hc ⊢
        refine ⟨kk, tx, by unfold fl; rw [if_neg g4, if_pos rfl]; rfl, fun e => absurd rfl e, ?_⟩
        refine run_step ?_
        unfold Xt.stepT
        rw [if_neg (by simp), if_neg (by simp), if_neg (by simp), if_neg (by simp), if_neg (by simp)]
        unfold charsT
        rw [if_neg (fun e => by cases e), if_pos ⟨rfl, g4⟩, if_neg (by show ¬ 4096 < N + 1; simp at hc; omega)]
        rfl
      · rw [if_neg h2] at h ⊢
        by_cases h3 : k = 3
        · subst h3
          rw [if_pos rfl] at h ⊢
          simp only [Bool.and_eq_true, decide_eq_true_eq] at h
          obtain ⟨⟨⟨⟨⟨g1, g2⟩, g3⟩, _⟩, _⟩, _⟩ := h
          have g1 := isEmpty_nil g1
          have g2 := isEmpty_nil g2
          subst g1; subst g2; subst g3
          rw [countL] at hc ⊢
          refine ⟨fl kk p ++ [.mk 3 [] tx [] []], [], by unfold fl; rw [if_pos rfl], fun _ => rfl, ?_⟩
          refine run_step ?_
          unfold Xt.stepT
          rw [if_neg (by simp), if_neg (by simp), if_neg (by simp), if_pos rfl, other_S (by simp at hc; omega)]
          rfl
        · rw [if_neg h3] at h ⊢
          by_cases h4 : k = 4
          · subst h4
            rw [if_pos rfl] at h
            simp only [Bool.and_eq_true, decide_eq_true_eq] at h
            obtain ⟨⟨⟨⟨⟨⟨g1, g2⟩, _⟩, _⟩, _⟩, _⟩, _⟩ := h
            have g1 := isEmpty_nil g1
            have g2 := isEmpty_nil g2
            subst g1; subst g2
            rw [countL] at hc ⊢
            refine ⟨fl kk p ++ [.mk 4 nm' tx [] []], [], by unfold fl; rw [if_pos rfl], fun _ => rfl, ?_⟩
            refine run_step ?_
            unfold Xt.stepT
            rw [if_neg (by simp), if_neg (by simp), if_neg (by simp), if_neg (by simp), if_pos rfl, other_S (by simp at hc; omega)]
            rfl
          · rw [if_neg h4] at h
            cases h
theorem build_L : ∀ (ks : List Nd) (was : Int), fairL was ks = true → ∀ (B : List Nd) (R : Nd) (A : List Nd) (nm : Tx) (as_ : List At) (kk : List Nd) (F : List Fr) (p : Tx) (N : Nat), (p ≠ [] → was = 2) → F.length + 1 + depthL ks ≤ 32 → N + countL ks ≤ 4096 →
    ∀ l, ∃ kk' p', fl kk' p' = fl kk p ++ ks ∧ Xt.runT (toksL ks ++ l) (S_ B R A nm as_ kk F p N) = Xt.runT l (S_ B R A nm as_ kk' F p' (N + countL ks))
  | [], _, _, B, R, A, nm, as_, kk, F, p, N, _, _, _, l => ⟨kk, p, by simp, by rw [toksL, countL]; rfl⟩
  | x :: xs, was, h, B, R, A, nm, as_, kk, F, p, N, hp, hd, hc, l => by
    rw [fairL] at h
    simp only [Bool.and_eq_true, Bool.not_eq_true', Bool.and_eq_false_iff, decide_eq_false_iff_not] at h
    obtain ⟨⟨hx, hw⟩, hxs⟩ := h
    rw [depthL] at hd
    rw [countL] at hc ⊢
    rw [toksL, List.append_assoc]
    obtain ⟨kk1, p1, g1, g2, g3⟩ := build_N x hx B R A nm as_ kk F p N (fun e => by
      refine Classical.byContradiction fun hne => ?_
      rcases hw with hw | hw
      · exact hw (hp hne)
      · exact hw e) (by omega) (by omega) (toksL xs ++ l)
    obtain ⟨kk2, p2, q1, q2⟩ := build_L xs x.kind hxs B R A nm as_ kk1 F p1 (N + countN x) (fun e => Classical.byContradiction fun hne => e (g2 hne)) (by omega) (by omega) l
    refine ⟨kk2, p2, by rw [q1, g1, List.append_assoc]; rfl, ?_⟩
    rw [g3, q2, Nat.add_assoc]
end
theorem misc_one {n : Nd} (hk : n.kind = 3 ∨ n.kind = 4) (h : fairN n = true) : ∃ t : Xl.Tok, toksN n = [t] ∧ countN n = 1 ∧ ((t.kind = 6 ∧ n = .mk 3 t.name t.text [] []) ∨ (t.kind = 7 ∧ n = .mk 4 t.name t.text [] [])) := by
  obtain ⟨k, nm, tx, as_, ks⟩ := n
  rw [fairN] at h
  rw [toksN, countN]
  rcases hk with hk | hk
  · have hk : k = 3 := hk
    subst hk
    simp only [show ¬ ((3 : Int) = 1) by decide, show ¬ ((3 : Int) = 2) by decide, if_false, if_true, Bool.and_eq_true, decide_eq_true_eq] at h ⊢
    obtain ⟨⟨⟨⟨⟨g1, g2⟩, g3⟩, _⟩, _⟩, _⟩ := h
    have g1 := isEmpty_nil g1
    have g2 := isEmpty_nil g2
    subst g1; subst g2; subst g3
    exact ⟨_, rfl, rfl, .inl ⟨rfl, rfl⟩⟩
  · have hk : k = 4 := hk
    subst hk
    simp only [show ¬ ((4 : Int) = 1) by decide, show ¬ ((4 : Int) = 2) by decide, show ¬ ((4 : Int) = 3) by decide, if_false, if_true, Bool.and_eq_true, decide_eq_true_eq] at h ⊢
    obtain ⟨⟨⟨⟨⟨⟨g1, g2⟩, _⟩, _⟩, _⟩, _⟩, _⟩ := h
    have g1 := isEmpty_nil g1
    have g2 := isEmpty_nil g2
    subst g1; subst g2
    exact ⟨_, rfl, rfl, .inr ⟨rfl, rfl⟩⟩
theorem build_misc {h : Bool} : ∀ (ks : List Nd), miscOk ks = true → ∀ (B : List Nd) (R : Nd) (A : List Nd) (N : Nat), N + ks.length ≤ 4096 → ∀ l,
    Xt.runT (toksL ks ++ l) ⟨B, R, h, A, [], [], N⟩ = Xt.runT l (if h then ⟨B, R, h, A ++ ks, [], [], N + ks.length⟩ else ⟨B ++ ks, R, h, A, [], [], N + ks.length⟩)
  | [], _, B, R, A, N, _, l => by
    rw [toksL]
    cases h <;> simp
  | x :: xs, hm, B, R, A, N, hN, l => by
    rw [miscOk] at hm
    simp only [Bool.and_eq_true, Bool.or_eq_true, decide_eq_true_eq] at hm
    obtain ⟨⟨hk, hx⟩, hxs⟩ := hm
    obtain ⟨t, e1, _, e2⟩ := misc_one hk hx
    simp only [List.length_cons] at hN
    rw [toksL, e1, List.append_assoc, List.singleton_append]
    have key : Xt.stepT ⟨B, R, h, A, [], [], N⟩ t = .ok (if h then ⟨B, R, h, A ++ [x], [], [], N + 1⟩ else ⟨B ++ [x], R, h, A, [], [], N + 1⟩) := by
      unfold Xt.stepT
      rcases e2 with ⟨e2, e3⟩ | ⟨e2, e3⟩
      · rw [if_neg (by omega), if_neg (by omega), if_neg (by omega), if_pos e2, other_0 (by decide) (by omega), ← e3]
      · rw [if_neg (by omega), if_neg (by omega), if_neg (by omega), if_neg (by omega), if_pos e2, other_0 (by decide) (by omega), ← e3]
    rw [run_step key]
    cases h with
    | true =>
      simp only [if_true]
      rw [build_misc xs hxs _ _ _ _ (by omega)]
      simp only [if_true, List.append_assoc, List.singleton_append, List.length_cons]
      congr 2
      omega
    | false =>
      simp only [Bool.false_eq_true, if_false]
      rw [build_misc xs hxs _ _ _ _ (by omega)]
      simp only [Bool.false_eq_true, if_false, List.append_assoc, List.singleton_append, List.length_cons]
      congr 2
      omega
/-- The root. -/
theorem build_root {n : Nd} (hk : n.kind = 1) (h : fairN n = true) (hd : depthN n ≤ 32) (hc : N + countN n ≤ 4096) (l : List Xl.Tok) : Xt.runT (toksN n ++ l) ⟨B, R, false, A, [], [], N⟩ = Xt.runT l ⟨B, n, true, A, [], [], N + countN n⟩ := by
  obtain ⟨k, nm, tx, as_, ks⟩ := n
  have hk : k = 1 := hk
  subst hk
  rw [fairN, if_pos rfl] at h
  simp only [Bool.and_eq_true, decide_eq_true_eq] at h
  obtain ⟨⟨⟨hn, htx⟩, ha⟩, hks⟩ := h
  subst htx
  rw [depthN, if_pos rfl] at hd
  rw [countN] at hc ⊢
  rw [toksN, if_pos rfl]
  have st : ∀ t : Xl.Tok, t.name = nm → t.attrs = as_ → startT ⟨B, R, false, A, [], [], N⟩ t = .ok (S_ B R A nm as_ [] [] [] (N + (1 + as_.length))) := fun t e1 e2 => by
    unfold startT
    rw [if_neg (by simp), if_neg (by rw [e2]; show ¬ 4096 < N + (1 + as_.length); omega), if_neg (fun e => by cases e.2), e1, e2]
    unfold flush
    simp only [if_true]
    rfl
  by_cases he : ks.isEmpty = true
  · rw [if_pos he]
    have he := isEmpty_nil he
    subst he
    rw [countL]
    refine run_step ?_
    unfold Xt.stepT
    rw [if_neg (by simp), if_pos rfl, st _ rfl rfl]
    show Except.ok (Xt.endT _) = _
    rw [end_0]
    rfl
  · rw [if_neg he]
    obtain ⟨kk2, p2, g1, g2⟩ := build_L ks 0 hks B R A nm as_ [] [] [] (N + (1 + as_.length)) (fun e => absurd rfl e) (by simp; omega) (by omega) (⟨3, 0, nm, [], []⟩ :: l)
    rw [List.cons_append, List.append_assoc, List.singleton_append, run_step (s' := S_ B R A nm as_ [] [] [] (N + (1 + as_.length)))]
    · rw [g2, run_step (s' := ⟨B, .mk 1 nm [] as_ ks, true, A, [], [], N + (1 + as_.length) + countL ks⟩)]
      · rw [Nat.add_assoc N]
      · unfold Xt.stepT
        rw [if_neg (by simp), if_neg (by simp), if_pos rfl]
        show (if nm = nm then Except.ok (Xt.endT _) else _) = _
        rw [if_pos rfl, end_0, g1]
        rfl
    · unfold Xt.stepT
      rw [if_pos rfl, st _ rfl rfl]
end
theorem run_strip : ∀ (l : List Xl.Tok) {s sf : St}, Xt.runT (l.map strip) s = .ok sf → Xt.runT l s = .ok sf
  | [], s, sf, h => h
  | t :: l, s, sf, h => by
    rw [List.map_cons, Xt.runT] at h
    have e : Xt.stepT s (strip t) = Xt.stepT s t := rfl
    rw [e] at h
    rw [Xt.runT]
    cases hs : Xt.stepT s t with
    | error c => rw [hs] at h; cases h
    | ok s' =>
      rw [hs] at h
      exact run_strip l h
theorem miscOk_L : ∀ {ks : List Nd} {was : Int}, miscOk ks = true → fairL was ks = true
  | [], _, _ => rfl
  | x :: xs, was, h => by
    rw [miscOk] at h
    simp only [Bool.and_eq_true, Bool.or_eq_true, decide_eq_true_eq] at h
    rw [fairL, h.1.2, miscOk_L h.2]
    have : x.kind ≠ 2 := by omega
    simp [this]
theorem misc_head {ks : List Nd} (h : miscOk ks = true) : writeL ks = [] ∨ (writeL ks).head? = some 60 := by
  cases ks with
  | nil => exact .inl (by rw [writeL])
  | cons x xs =>
    rw [miscOk] at h
    simp only [Bool.and_eq_true, Bool.or_eq_true, decide_eq_true_eq] at h
    obtain ⟨t, ht⟩ := head60 h.1.2 (by omega)
    exact .inr (by rw [writeL, ht]; rfl)
/-- What is written of a document that may be is parsed to it. -/
theorem back {d : Doc} (h : mayD d = true) : ∃ ts, Xl.allF (writeD d) = (0, 0, ts) ∧ ∀ len, parseT len ts = (0, 0, d) := by
  unfold mayD at h
  simp only [Bool.and_eq_true, decide_eq_true_eq] at h
  obtain ⟨⟨⟨⟨⟨⟨hk, hf⟩, hb⟩, ha⟩, hd⟩, hc⟩, hl⟩ := h
  have hV : V (writeD d) := V.append (V.append (V_writeL _ 0 (miscOk_L hb)) (V_writeN _ hf)) (V_writeL _ 0 (miscOk_L ha))
  have hbad : badW (writeD d) 0 < 0 := of_decide_eq_true (V_good hV)
  have hdec : decl (writeD d) = .ok () 0 := by
    unfold writeD
    rw [List.append_assoc]
    cases hbe : d.before with
    | nil =>
      rw [writeL, List.nil_append]
      exact decl_N hf (by omega) _
    | cons x xs =>
      rw [hbe, miscOk] at hb
      simp only [Bool.and_eq_true, Bool.or_eq_true, decide_eq_true_eq] at hb
      rw [writeL, List.append_assoc]
      exact decl_N hb.1.2 (by omega) _
  have hR : Reads_ (writeD d) [] (toksL d.before ++ (toksN d.root ++ toksL d.after)) := by
    unfold writeD
    rw [List.append_assoc]
    refine (reads_L _ 0 (miscOk_L hb) _ (.inr ?_)).append ((reads_N _ hf _ (fun e => by omega)).append (reads_L _ 0 (miscOk_L ha) [] (.inl rfl)))
    obtain ⟨t, ht⟩ := head60 hf (by omega)
    rw [ht]
    rfl
  obtain ⟨vs, _, hlen, hrun⟩ := hR
  obtain ⟨zs, z1, _, z3⟩ := hrun ((writeD d).length + 1 - vs.length) 0 []
  rw [List.append_nil, run_end, show (writeD d).length + 1 - vs.length + vs.length = (writeD d).length + 1 by omega, List.nil_append] at z3
  refine ⟨zs, ?_, fun len => ?_⟩
  · unfold Xl.allF
    rw [if_neg (by omega), if_neg (by omega), hdec]
    simp only [List.drop_zero]
    exact z3
  · have hr : Xt.runT zs .start = .ok ⟨d.before, d.root, true, d.after, [], [], 0 + d.before.length + countN d.root + d.after.length⟩ := by
      refine run_strip zs ?_
      rw [z1]
      unfold St.start
      rw [build_misc d.before hb [] zero [] 0 (by omega)]
      simp only [Bool.false_eq_true, if_false, List.nil_append]
      rw [build_root hk hf hd (by omega)]
      have := build_misc (h := true) d.after ha d.before d.root [] (0 + d.before.length + countN d.root) (by omega) []
      rw [List.append_nil] at this
      rw [this]
      rfl
    unfold parseT
    rw [hr]
    simp
end Go.Proofs.YtokdnhdfmgfkeaaGreatDoor.Xo
end

section
namespace Go.Proofs.YtokdnhdfmgfkeaaGreatDoor.Xt
open Xl

def isCh (t : Tok) : Bool := t.kind == 4 || t.kind == 5
def span_ : List Tok → Tx × List Tok
  | [] => ([], [])
  | t :: r => if isCh t = true then (t.text ++ (span_ r).1, (span_ r).2) else ([], t :: r)
/-- What stands up to the end tag that closes it, or the end. -/
def kidsF : Nat → List Tok → List Nd × List Tok
  | 0, l => ([], l)
  | _ + 1, [] => ([], [])
  | f + 1, t :: r =>
    if t.kind = 3 then ([], t :: r)
    else if t.kind = 1 then (.mk 1 t.name [] t.attrs (kidsF f r).1 :: (kidsF f ((kidsF f r).2.drop 1)).1, (kidsF f ((kidsF f r).2.drop 1)).2)
    else if t.kind = 2 then (.mk 1 t.name [] t.attrs [] :: (kidsF f r).1, (kidsF f r).2)
    else if t.kind = 6 then (.mk 3 [] t.text [] [] :: (kidsF f r).1, (kidsF f r).2)
    else if t.kind = 7 then (.mk 4 t.name t.text [] [] :: (kidsF f r).1, (kidsF f r).2)
    else (if (span_ (t :: r)).1 = [] then (kidsF f (span_ (t :: r)).2).1 else textN (span_ (t :: r)).1 :: (kidsF f (span_ (t :: r)).2).1, (kidsF f (span_ (t :: r)).2).2)

/-- Tokens as the lexer gives them. -/
def Ok (l : List Tok) : Prop := ∀ t ∈ l, (1 ≤ t.kind ∧ t.kind ≤ 7) ∧ (t.kind = 6 → t.name = [])
theorem Ok.tail {t : Tok} {l : List Tok} (h : Ok (t :: l)) : Ok l := fun x hx => h x (List.mem_cons_of_mem _ hx)

theorem span_len : ∀ l, (span_ l).2.length ≤ l.length
  | [] => Nat.le_refl _
  | t :: r => by
    rw [span_]
    split
    · have := span_len r
      simp
      omega
    · exact Nat.le_refl _
theorem span_sub : ∀ l, ∀ t ∈ (span_ l).2, t ∈ l
  | [], t, h => h
  | x :: r, t, h => by
    rw [span_] at h
    split at h
    · exact List.mem_cons_of_mem _ (span_sub r t h)
    · exact h
theorem span_head : ∀ l t, (span_ l).2.head? = some t → isCh t = false
  | [], t, h => by cases h
  | x :: r, t, h => by
    rw [span_] at h
    split at h
    · exact span_head r t h
    · rename_i hc
      injection h with h
      subst h
      simpa using hc
theorem kids_len : ∀ f l, (kidsF f l).2.length ≤ l.length
  | 0, l => Nat.le_refl _
  | f + 1, [] => Nat.le_refl _
  | f + 1, t :: r => by
    rw [kidsF]
    have h1 := kids_len f r
    have h2 := kids_len f ((kidsF f r).2.drop 1)
    have h3 := kids_len f (span_ (t :: r)).2
    have h4 := span_len (t :: r)
    rw [List.length_drop] at h2
    simp only [List.length_cons] at h4 ⊢
    split
    · simp
    · split
      · simp only; omega
      · split
        · simp only; omega
        · split
          · simp only; omega
          · split
            · simp only; omega
            · simp only; omega
theorem kids_sub : ∀ f l, ∀ t ∈ (kidsF f l).2, t ∈ l
  | 0, l, t, h => h
  | f + 1, [], t, h => h
  | f + 1, x :: r, t, h => by
    rw [kidsF] at h
    split at h
    · exact h
    · split at h
      · exact List.mem_cons_of_mem _ (kids_sub f r t (List.mem_of_mem_drop (kids_sub f _ t h)))
      · split at h
        · exact List.mem_cons_of_mem _ (kids_sub f r t h)
        · split at h
          · exact List.mem_cons_of_mem _ (kids_sub f r t h)
          · split at h
            · exact List.mem_cons_of_mem _ (kids_sub f r t h)
            · exact span_sub _ t (kids_sub f _ t h)

theorem flush_id {s : St} (h : s.text = []) : flush s = s := by
  unfold flush
  rw [if_pos h]
theorem flush_flush (s : St) : flush (flush s) = flush s := flush_id (flush_text s)
def St.setN (s : St) (n : Nat) : St := { s with nodes := n }
theorem flush_setN (s : St) (n : Nat) : flush (s.setN n) = (flush s).setN n := by
  unfold flush St.setN
  simp only
  split
  · rfl
  · unfold put
    cases h : s.opn with
    | nil =>
      simp only
      split
      · rfl
      · split <;> rfl
    | cons f F => rfl
theorem flush_nodes' (s : St) (n : Nat) : flush { s with nodes := n } = (flush s).setN n := flush_setN s n
/-- What is no character flushes first. -/
theorem step_flush {s : St} {t : Tok} (h : isCh t = false) (hk : 1 ≤ t.kind ∧ t.kind ≤ 7) : stepT (flush s) t = stepT s t := by
  have hk4 : t.kind ≠ 4 ∧ t.kind ≠ 5 := by
    unfold isCh at h
    simp at h
    exact h
  have hl : (flush s).opn.length = s.opn.length := by
    have := congrArg List.length (flush_opn s)
    simpa using this
  have hn := nil_of_names (flush_opn s)
  have kk : ∀ n, flush ((flush s).setN n) = flush (s.setN n) := fun n => by rw [flush_setN, flush_setN, flush_flush]
  have st : startT (flush s) t = startT s t := by
    have k := kk (s.nodes + (1 + t.attrs.length))
    unfold St.setN at k
    simp only [flush_has] at k
    unfold startT
    simp only [hl, flush_nodes, flush_has, hn]
    rw [k]
  have en : endT (flush s) = endT s := by
    unfold endT
    rw [flush_flush]
  have ot : ∀ k, otherT (flush s) t k = otherT s t k := fun k => by
    have k0 := kk (s.nodes + 1)
    unfold St.setN at k0
    unfold otherT
    simp only [flush_nodes]
    rw [k0]
  unfold stepT
  rw [st, en, ot, ot]
  by_cases k1 : t.kind = 1
  · rw [if_pos k1, if_pos k1]
  · rw [if_neg k1, if_neg k1]
    by_cases k2 : t.kind = 2
    · rw [if_pos k2, if_pos k2]
    · rw [if_neg k2, if_neg k2]
      by_cases k3 : t.kind = 3
      · rw [if_pos k3, if_pos k3]
        have hm := flush_opn s
        cases ho : s.opn with
        | nil => rw [hn.2 ho]
        | cons f F =>
          cases hf : (flush s).opn with
          | nil => rw [hn.1 hf] at ho; cases ho
          | cons g G =>
            rw [ho, hf, List.map_cons, List.map_cons] at hm
            injection hm with hm _
            simp only
            rw [hm]
      · rw [if_neg k3, if_neg k3]
        by_cases k6 : t.kind = 6
        · rw [if_pos k6, if_pos k6]
        · rw [if_neg k6, if_neg k6]
          by_cases k7 : t.kind = 7
          · rw [if_pos k7, if_pos k7]
          · omega

/-- Characters, within an element. -/
theorem run_span : ∀ (l : List Tok) {s sf : St}, Ok l → s.opn ≠ [] → runT l s = .ok sf → ∃ n, runT (span_ l).2 { s with text := s.text ++ (span_ l).1, nodes := n } = .ok sf
  | [], s, sf, _, _, h => ⟨s.nodes, by
    rw [span_, List.append_nil]
    exact h⟩
  | t :: r, s, sf, hk, ho, h => by
    rw [span_]
    split
    · rename_i hc
      rw [runT] at h
      have hst : ∃ n, stepT s t = .ok { s with text := s.text ++ t.text, nodes := n } ∨ ∃ e, stepT s t = .error e := by
        have k4 : t.kind = 4 ∨ t.kind = 5 := by
          unfold isCh at hc
          simpa using hc
        unfold stepT
        rw [if_neg (by omega), if_neg (by omega), if_neg (by omega), if_neg (by omega), if_neg (by omega)]
        unfold charsT
        rw [if_neg ho]
        split
        · split
          · exact ⟨0, .inr ⟨_, rfl⟩⟩
          · exact ⟨_, .inl rfl⟩
        · exact ⟨s.nodes, .inl rfl⟩
      obtain ⟨n, hst | ⟨e, hst⟩⟩ := hst
      · rw [hst] at h
        obtain ⟨m, hm⟩ := run_span r hk.tail (s := { s with text := s.text ++ t.text, nodes := n }) ho h
        refine ⟨m, ?_⟩
        rw [← hm]
        simp only [List.append_assoc]
      · rw [hst] at h
        cases h
    · refine ⟨s.nodes, ?_⟩
      rw [List.append_nil]
      exact h
/-- Characters outside. -/
theorem run_span0 : ∀ (l : List Tok) {s sf : St}, s.opn = [] → runT l s = .ok sf → runT (span_ l).2 s = .ok sf
  | [], s, sf, _, h => h
  | t :: r, s, sf, ho, h => by
    rw [span_]
    split
    · rename_i hc
      rw [runT] at h
      have k4 : t.kind = 4 ∨ t.kind = 5 := by
        unfold isCh at hc
        simpa using hc
      have hst : stepT s t = .ok s ∨ ∃ e, stepT s t = .error e := by
        unfold stepT
        rw [if_neg (by omega), if_neg (by omega), if_neg (by omega), if_neg (by omega), if_neg (by omega)]
        unfold charsT
        rw [if_pos ho]
        split
        · exact .inr ⟨_, rfl⟩
        · exact .inl rfl
      rcases hst with hst | ⟨e, hst⟩
      · rw [hst] at h
        exact run_span0 r ho h
      · rw [hst] at h
        cases h
    · exact h

theorem start_ok {s s2 : St} {t : Tok} (h : startT s t = .ok s2) (ht : s.text = []) : s2 = { s with opn := ⟨t.name, t.attrs, []⟩ :: s.opn, has := s.has || decide (s.opn = []), nodes := s.nodes + (1 + t.attrs.length) } := by
  unfold startT at h
  split at h
  · cases h
  · split at h
    · cases h
    · split at h
      · cases h
      · injection h with h
        rw [← h]
        have : flush { s with nodes := s.nodes + (1 + t.attrs.length) } = { s with nodes := s.nodes + (1 + t.attrs.length) } := by
          unfold flush
          rw [if_pos ht]
        rw [this]
theorem end_of {s : St} {f : Fr} {F : List Fr} (h : (flush s).opn = f :: F) : endT s = put { flush s with opn := F } (.mk 1 f.name [] f.attrs f.kids) := by
  unfold endT
  simp only
  rw [h]
/-- One token more, within an element, nothing waiting. -/
theorem step_one {s s' : St} {t : Tok} {top : Fr} {F : List Fr} (ho : s.opn = top :: F) (ht : s.text = []) (h : stepT s t = .ok s') (k : Int) (hk : t.kind = 6 ∧ k = 3 ∨ t.kind = 7 ∧ k = 4) :
    s' = { s with opn := { top with kids := top.kids ++ [.mk k t.name t.text [] []] } :: F, nodes := s'.nodes } ∧ s'.text = [] := by
  have hs : otherT s t k = .ok s' := by
    unfold stepT at h
    rw [if_neg (by omega), if_neg (by omega), if_neg (by omega)] at h
    rcases hk with ⟨h6, rfl⟩ | ⟨h7, rfl⟩
    · rw [if_pos h6] at h
      exact h
    · rw [if_neg (by omega), if_pos h7] at h
      exact h
  unfold otherT at hs
  split at hs
  · cases hs
  · injection hs with hs
    rw [flush_nodes', flush_id ht] at hs
    unfold St.setN at hs
    unfold put at hs
    rw [ho] at hs
    simp only at hs
    rw [← hs]
    exact ⟨rfl, ht⟩
/-- Within an element: what is read up to its end tag. -/
theorem nested : ∀ (f : Nat) {l : List Tok} {s sf : St} {top : Fr} {F : List Fr}, l.length < f → Ok l → s.opn = top :: F → s.text = [] → runT l s = .ok sf → sf.opn = [] →
    ∃ t r s1 n, (kidsF f l).2 = t :: r ∧ t.kind = 3 ∧ runT (t :: r) s1 = .ok sf ∧ flush s1 = { s with opn := { top with kids := top.kids ++ (kidsF f l).1 } :: F, nodes := n }
  | 0, l, s, sf, top, F, hf, _, _, _, _, _ => absurd hf (by omega)
  | f + 1, [], s, sf, top, F, _, _, ho, _, h, h0 => by
    injection h with h
    subst h
    rw [ho] at h0
    cases h0
  | f + 1, t :: r, s, sf, top, F, hf, hk, ho, ht, h, h0 => by
    have hkt := hk t (List.mem_cons_self ..)
    have hfr : r.length < f := by simp at hf; omega
    rw [kidsF]
    by_cases k3 : t.kind = 3
    · rw [if_pos k3]
      refine ⟨t, r, s, s.nodes, rfl, k3, h, ?_⟩
      rw [flush_id ht, List.append_nil, ← ho]
    · rw [if_neg k3]
      rw [runT] at h
      by_cases k1 : t.kind = 1
      · rw [if_pos k1]
        cases hs : stepT s t with
        | error e => rw [hs] at h; cases h
        | ok s2 =>
          rw [hs] at h
          have hst : startT s t = .ok s2 := by
            unfold stepT at hs
            rw [if_pos k1] at hs
            exact hs
          have e2 := start_ok hst ht
          have ho2 : s2.opn = ⟨t.name, t.attrs, []⟩ :: top :: F := by rw [e2, ho]
          have ht2 : s2.text = [] := by rw [e2]; exact ht
          obtain ⟨t1, r1, s1, n1, g1, g2, g3, g4⟩ := nested f hfr hk.tail ho2 ht2 h h0
          have hl1 := kids_len f r
          rw [g1] at hl1
          simp at hl1
          rw [g1, List.drop_succ_cons, List.drop_zero]
          rw [runT] at g3
          cases hs1 : stepT s1 t1 with
          | error e => rw [hs1] at g3; cases g3
          | ok s3 =>
            rw [hs1] at g3
            have h3 : s3 = endT s1 := by
              unfold stepT at hs1
              rw [if_neg (by omega), if_neg (by omega), if_pos g2] at hs1
              split at hs1
              · cases hs1
              · split at hs1
                · injection hs1 with hs1
                  exact hs1.symm
                · cases hs1
            rw [end_of (by rw [g4])] at h3
            rw [g4] at h3
            unfold put at h3
            simp only [List.nil_append] at h3
            have ho3 : s3.opn = { top with kids := top.kids ++ [.mk 1 t.name [] t.attrs (kidsF f r).1] } :: F := by rw [h3]
            have ht3 : s3.text = [] := by rw [h3]; exact ht2
            have hk1 : Ok r1 := fun x hx => hk.tail x (kids_sub f r x (by rw [g1]; exact List.mem_cons_of_mem _ hx))
            obtain ⟨t4, r4, s4, n4, q1, q2, q3, q4⟩ := nested f (l := r1) (by omega) hk1 ho3 ht3 g3 h0
            refine ⟨t4, r4, s4, n4, q1, q2, q3, ?_⟩
            rw [q4, h3, e2, ho]
            simp
      · rw [if_neg k1]
        by_cases k2 : t.kind = 2
        · rw [if_pos k2]
          cases hs : stepT s t with
          | error e => rw [hs] at h; cases h
          | ok s2 =>
            rw [hs] at h
            cases hst : startT s t with
            | error e =>
              unfold stepT at hs
              rw [if_neg k1, if_pos k2, hst] at hs
              cases hs
            | ok s1 =>
              unfold stepT at hs
              rw [if_neg k1, if_pos k2, hst] at hs
              injection hs with hs
              have e1 := start_ok hst ht
              have ht1 : s1.text = [] := by rw [e1]; exact ht
              have he : (flush s1).opn = ⟨t.name, t.attrs, []⟩ :: top :: F := by rw [flush_id ht1, e1, ho]
              rw [end_of he, flush_id ht1] at hs
              unfold put at hs
              simp only at hs
              have ho2 : s2.opn = { top with kids := top.kids ++ [.mk 1 t.name [] t.attrs []] } :: F := by rw [← hs]
              have ht2 : s2.text = [] := by rw [← hs]; exact ht1
              obtain ⟨t4, r4, s4, n4, q1, q2, q3, q4⟩ := nested f hfr hk.tail ho2 ht2 h h0
              refine ⟨t4, r4, s4, n4, q1, q2, q3, ?_⟩
              rw [q4, ← hs, e1, ho]
              simp
        · rw [if_neg k2]
          have one : ∀ k, (t.kind = 6 ∧ k = 3 ∨ t.kind = 7 ∧ k = 4) → ∃ t4 r4 s4 n4, (kidsF f r).2 = t4 :: r4 ∧ t4.kind = 3 ∧ runT (t4 :: r4) s4 = .ok sf ∧ flush s4 = { s with opn := { top with kids := top.kids ++ (.mk k t.name t.text [] [] :: (kidsF f r).1) } :: F, nodes := n4 } := by
            intro k hkk
            cases hs : stepT s t with
            | error e => rw [hs] at h; cases h
            | ok s2 =>
              rw [hs] at h
              obtain ⟨e2, ht2⟩ := step_one ho ht hs k hkk
              have ho2 : s2.opn = { top with kids := top.kids ++ [.mk k t.name t.text [] []] } :: F := by rw [e2]
              obtain ⟨t4, r4, s4, n4, q1, q2, q3, q4⟩ := nested f hfr hk.tail ho2 ht2 h h0
              refine ⟨t4, r4, s4, n4, q1, q2, q3, ?_⟩
              rw [q4, e2]
              simp
          by_cases k6 : t.kind = 6
          · rw [if_pos k6]
            have := one 3 (.inl ⟨k6, rfl⟩)
            rw [hkt.2 k6] at this
            exact this
          · rw [if_neg k6]
            by_cases k7 : t.kind = 7
            · rw [if_pos k7]
              exact one 4 (.inr ⟨k7, rfl⟩)
            · rw [if_neg k7]
              have hsp : (span_ (t :: r)).2 = (span_ r).2 := by
                rw [span_, if_pos]
                unfold isCh
                have := hkt.1
                simp
                omega
              have hl2 := span_len r
              obtain ⟨m, hm⟩ := run_span (t :: r) (sf := sf) hk (by rw [ho]; simp) (by rw [runT]; exact h)
              rw [ht, List.nil_append] at hm
              have hk2 : Ok (span_ (t :: r)).2 := fun x hx => hk x (span_sub _ x hx)
              obtain ⟨w, hw⟩ : ∃ w, (span_ (t :: r)).1 = w := ⟨_, rfl⟩
              rw [hw] at hm ⊢
              have hfl : flush { s with text := w, nodes := m } = { s with opn := { top with kids := top.kids ++ (if w = [] then [] else [textN w]) } :: F, text := [], nodes := m } := by
                unfold flush
                simp only
                split
                · rename_i hw0
                  rw [hw0, ho]
                  simp
                · unfold put
                  rw [ho]
              have hrun : runT (span_ (t :: r)).2 (flush { s with text := w, nodes := m }) = .ok sf := by
                have hh := span_head (t :: r)
                cases hsl : (span_ (t :: r)).2 with
                | nil =>
                  rw [hsl] at hm
                  injection hm with hm
                  rw [← hm] at h0
                  rw [ho] at h0
                  cases h0
                | cons x y =>
                  rw [hsl] at hm hh
                  have hx := hh x rfl
                  rw [runT] at hm ⊢
                  rw [step_flush hx (hk2 x (by rw [hsl]; exact List.mem_cons_self ..)).1]
                  exact hm
              rw [hfl] at hrun
              obtain ⟨t4, r4, s4, n4, q1, q2, q3, q4⟩ := nested f (l := (span_ (t :: r)).2) (by rw [hsp]; omega) hk2 (s := { s with opn := { top with kids := top.kids ++ (if w = [] then [] else [textN w]) } :: F, text := [], nodes := m }) rfl rfl hrun h0
              refine ⟨t4, r4, s4, n4, q1, q2, q3, ?_⟩
              rw [q4]
              simp only [ht]
              split
              · simp
              · simp

/-- A node that stands outside of all elements. -/
def putTop (s : St) (n : Nd) : St := if n.kind = 2 then s else put s n
theorem putTop_opn {s : St} (h : s.opn = []) (n : Nd) : (putTop s n).opn = [] := by
  unfold putTop
  split
  · exact h
  · exact (nil_of_names (put_opn s n)).2 h
theorem put_setN (s : St) (n : Nd) (m : Nat) : put (s.setN m) n = (put s n).setN m := by
  unfold put St.setN
  cases h : s.opn with
  | nil =>
    simp only
    split
    · rfl
    · split <;> rfl
  | cons f F => rfl
theorem putTop_setN (s : St) (n : Nd) (m : Nat) : putTop (s.setN m) n = (putTop s n).setN m := by
  unfold putTop
  split
  · rfl
  · exact put_setN s n m
theorem fold_setN : ∀ (l : List Nd) (s : St) (m : Nat), l.foldl putTop (s.setN m) = (l.foldl putTop s).setN m
  | [], s, m => rfl
  | n :: l, s, m => by
    rw [List.foldl_cons, List.foldl_cons, putTop_setN, fold_setN l]
theorem putTop_elem {s : St} (h : s.opn = []) (nm : Tx) (as_ : List At) (ks : List Nd) : putTop s (.mk 1 nm [] as_ ks) = { s with root := .mk 1 nm [] as_ ks, has := true } := by
  unfold putTop
  rw [if_neg (by simp [Nd.kind])]
  unfold put
  rw [h]
  simp [Nd.kind]
theorem setN_setN (s : St) (a b : Nat) : (s.setN a).setN b = s.setN b := rfl
theorem outer : ∀ (f : Nat) {l : List Tok} {s sf : St}, l.length < f → Ok l → s.opn = [] → s.text = [] → runT l s = .ok sf → sf.opn = [] →
    (kidsF f l).2 = [] ∧ ∃ n, sf = ((kidsF f l).1.foldl putTop s).setN n
  | 0, l, s, sf, hf, _, _, _, _, _ => absurd hf (by omega)
  | f + 1, [], s, sf, _, _, _, _, h, _ => by
    injection h with h
    subst h
    exact ⟨rfl, s.nodes, rfl⟩
  | f + 1, t :: r, s, sf, hf, hk, ho, ht, h, h0 => by
    have hkt := hk t (List.mem_cons_self ..)
    have hfr : r.length < f := by simp at hf; omega
    rw [runT] at h
    rw [kidsF]
    by_cases k3 : t.kind = 3
    · exfalso
      unfold stepT at h
      rw [if_neg (by omega), if_neg (by omega), if_pos k3, ho] at h
      cases h
    · rw [if_neg k3]
      by_cases k1 : t.kind = 1
      · rw [if_pos k1]
        cases hs : stepT s t with
        | error e => rw [hs] at h; cases h
        | ok s2 =>
          rw [hs] at h
          have hst : startT s t = .ok s2 := by
            unfold stepT at hs
            rw [if_pos k1] at hs
            exact hs
          have e2 := start_ok hst ht
          have ho2 : s2.opn = ⟨t.name, t.attrs, []⟩ :: [] := by rw [e2, ho]
          have ht2 : s2.text = [] := by rw [e2]; exact ht
          obtain ⟨t1, r1, s1, n1, g1, g2, g3, g4⟩ := nested f hfr hk.tail ho2 ht2 h h0
          have hl1 := kids_len f r
          rw [g1] at hl1
          simp at hl1
          rw [g1, List.drop_succ_cons, List.drop_zero]
          rw [runT] at g3
          cases hs1 : stepT s1 t1 with
          | error e => rw [hs1] at g3; cases g3
          | ok s3 =>
            rw [hs1] at g3
            have h3 : s3 = endT s1 := by
              unfold stepT at hs1
              rw [if_neg (by omega), if_neg (by omega), if_pos g2] at hs1
              split at hs1
              · cases hs1
              · split at hs1
                · injection hs1 with hs1
                  exact hs1.symm
                · cases hs1
            rw [end_of (by rw [g4])] at h3
            rw [g4] at h3
            unfold put at h3
            simp only [List.nil_append, Nd.kind, if_true] at h3
            have ho3 : s3.opn = [] := by rw [h3]
            have ht3 : s3.text = [] := by rw [h3]; exact ht2
            have hk1 : Ok r1 := fun x hx => hk.tail x (kids_sub f r x (by rw [g1]; exact List.mem_cons_of_mem _ hx))
            obtain ⟨q1, n4, q4⟩ := outer f (l := r1) (by omega) hk1 ho3 ht3 g3 h0
            refine ⟨q1, n4, ?_⟩
            have e3 : s3 = (putTop s (.mk 1 t.name [] t.attrs (kidsF f r).1)).setN n1 := by
              rw [h3, putTop_elem ho, e2]
              unfold St.setN
              rw [ho]
            rw [q4, e3, fold_setN, setN_setN, List.foldl_cons]
      · rw [if_neg k1]
        by_cases k2 : t.kind = 2
        · rw [if_pos k2]
          cases hs : stepT s t with
          | error e => rw [hs] at h; cases h
          | ok s2 =>
            rw [hs] at h
            cases hst : startT s t with
            | error e =>
              unfold stepT at hs
              rw [if_neg k1, if_pos k2, hst] at hs
              cases hs
            | ok s1 =>
              unfold stepT at hs
              rw [if_neg k1, if_pos k2, hst] at hs
              injection hs with hs
              have e1 := start_ok hst ht
              have ht1 : s1.text = [] := by rw [e1]; exact ht
              have he : (flush s1).opn = ⟨t.name, t.attrs, []⟩ :: [] := by rw [flush_id ht1, e1, ho]
              rw [end_of he, flush_id ht1] at hs
              unfold put at hs
              simp only [Nd.kind, if_true] at hs
              have ho2 : s2.opn = [] := by rw [← hs]
              have ht2 : s2.text = [] := by rw [← hs]; exact ht1
              obtain ⟨q1, n4, q4⟩ := outer f hfr hk.tail ho2 ht2 h h0
              refine ⟨q1, n4, ?_⟩
              have e3 : s2 = (putTop s (.mk 1 t.name [] t.attrs [])).setN s2.nodes := by
                rw [← hs, putTop_elem ho, e1]
                unfold St.setN
                rw [ho]
              rw [q4, e3, fold_setN, setN_setN, List.foldl_cons]
        · rw [if_neg k2]
          have one : ∀ k, (t.kind = 6 ∧ k = 3 ∨ t.kind = 7 ∧ k = 4) → (kidsF f r).2 = [] ∧ ∃ n, sf = ((.mk k t.name t.text [] [] :: (kidsF f r).1).foldl putTop s).setN n := by
            intro k hkk
            cases hs : stepT s t with
            | error e => rw [hs] at h; cases h
            | ok s2 =>
              rw [hs] at h
              have hot : otherT s t k = .ok s2 := by
                unfold stepT at hs
                rw [if_neg (by omega), if_neg (by omega), if_neg (by omega)] at hs
                rcases hkk with ⟨h6, rfl⟩ | ⟨h7, rfl⟩
                · rw [if_pos h6] at hs
                  exact hs
                · rw [if_neg (by omega), if_pos h7] at hs
                  exact hs
              unfold otherT at hot
              split at hot
              · cases hot
              · injection hot with hot
                rw [flush_nodes', flush_id ht, put_setN] at hot
                have hpt : putTop s (.mk k t.name t.text [] []) = put s (.mk k t.name t.text [] []) := by
                  unfold putTop
                  rw [if_neg (by simp [Nd.kind]; omega)]
                have ho2 : s2.opn = [] := by
                  rw [← hot]
                  exact (nil_of_names (put_opn s _)).2 ho
                have ht2 : s2.text = [] := by
                  rw [← hot]
                  exact (put_text s _).trans ht
                obtain ⟨q1, n4, q4⟩ := outer f hfr hk.tail ho2 ht2 h h0
                refine ⟨q1, n4, ?_⟩
                rw [q4, ← hot, fold_setN, setN_setN, List.foldl_cons, hpt]
          by_cases k6 : t.kind = 6
          · rw [if_pos k6]
            have := one 3 (.inl ⟨k6, rfl⟩)
            rw [hkt.2 k6] at this
            exact this
          · rw [if_neg k6]
            by_cases k7 : t.kind = 7
            · rw [if_pos k7]
              exact one 4 (.inr ⟨k7, rfl⟩)
            · rw [if_neg k7]
              have hsp : (span_ (t :: r)).2 = (span_ r).2 := by
                rw [span_, if_pos]
                unfold isCh
                have := hkt.1
                simp
                omega
              have hl2 := span_len r
              have hm := run_span0 (t :: r) (sf := sf) ho (by rw [runT]; exact h)
              have hk2 : Ok (span_ (t :: r)).2 := fun x hx => hk x (span_sub _ x hx)
              obtain ⟨q1, n4, q4⟩ := outer f (l := (span_ (t :: r)).2) (by rw [hsp]; omega) hk2 ho ht hm h0
              refine ⟨q1, n4, ?_⟩
              rw [q4]
              simp only
              split
              · rfl
              · rw [List.foldl_cons]
                rfl
end Go.Proofs.YtokdnhdfmgfkeaaGreatDoor.Xt
end
