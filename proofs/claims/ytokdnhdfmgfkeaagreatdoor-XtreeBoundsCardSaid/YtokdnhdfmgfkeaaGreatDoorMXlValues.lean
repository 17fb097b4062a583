/- The law XlexValues, plainly. No program stands here. -/
import Derived.Test.YtokdnhdfmgfkeaaGreatDoorMXlLex
section
namespace Go.Proofs.YtokdnhdfmgfkeaaGreatDoor.Xl
open Go.RowKit UtfW Qx

theorem V_of_bad {l : Tx} (h : badW l 0 < 0) : V l := by
  obtain ⟨rs, u, h1, h2, h3⟩ := runes_split l.length l (Nat.le_refl _)
  rcases h3 with rfl | ⟨h4, h5⟩
  · exact ⟨rs, h1, by rw [h2, List.append_nil]⟩
  · rw [badW_E h4 h5 rs 0 h1 (by rw [List.drop_zero]; exact h2)] at h
    omega
theorem V.cons {c : UInt8} {b : Tx} (hc : c.toNat < 128) {a : Tx} (h : V (a ++ c :: b)) : V (c :: b) := by
  obtain ⟨rs, hr, e⟩ := h
  exact (V.split hc hr e).2
theorem V.enc {v : Nat} (h : Utf.Char (v : Nat) = true) : V (encB (v : Nat)) := ⟨[v], fun r hr => by rw [List.mem_singleton.1 hr]; exact h, (E_one v).symm⟩

/-! ### Ends of lines -/
theorem lines_app : ∀ {a : Tx}, 13 ∉ a → ∀ s, Utf.lines (a ++ s) = a ++ Utf.lines s
  | [], _, _ => rfl
  | b :: a, h, s => by
    rw [List.mem_cons, not_or] at h
    rw [List.cons_append, Utf.lines, if_neg (fun e => h.1 e.symm), lines_app h.2 s, List.cons_append]
theorem cut13 (c : UInt8) : ∀ s : Tx, c ∉ s ∨ ∃ x r, s = x ++ c :: r ∧ c ∉ x
  | [] => .inl (by simp)
  | b :: s => by
    by_cases hb : b = c
    · exact .inr ⟨[], s, by rw [hb]; rfl, by simp⟩
    · rcases cut13 c s with h | ⟨x, r, e, h⟩
      · exact .inl (by rw [List.mem_cons, not_or]; exact ⟨fun e => hb e.symm, h⟩)
      · exact .inr ⟨b :: x, r, by rw [e]; rfl, by rw [List.mem_cons, not_or]; exact ⟨fun e => hb e.symm, h⟩⟩
theorem V.lines : ∀ (n : Nat) {s : Tx}, s.length ≤ n → V s → V (Utf.lines s)
  | 0, s, h, hv => by
    obtain rfl : s = [] := List.eq_nil_of_length_eq_zero (by omega)
    exact hv
  | n + 1, s, h, hv => by
    rcases cut13 13 s with h1 | ⟨x, r, rfl, h1⟩
    · have := lines_app h1 []
      rw [List.append_nil] at this
      rw [this]
      show V (s ++ [])
      rw [List.append_nil]
      exact hv
    · obtain ⟨hx, hr⟩ := V.cut (c := 13) (by decide) hv
      have ih := V.lines n (s := r) (by simp at h; omega) hr
      rw [lines_app h1]
      refine hx.append ?_
      rw [Utf.lines, if_pos rfl]
      split
      · exact ih
      · exact V.append (V.one (c := 10) (by decide) (by decide)) ih

/-! ### Names -/
theorem nameR_take {r : Tx} (h : V r) (h0 : nameL r ≠ 0) : nameR (r.take (nameL r)) = true := by
  obtain ⟨rs, hr, rfl⟩ := h
  have hge := E_ge hr
  obtain ⟨qs, ss, h1, h2, h3, h4⟩ := name_split rs ((E rs).length + 1) true (by omega) hr
  have h2' : nameL (E rs) = (E qs).length := h2
  subst h1
  have hq : ∀ r ∈ qs, Utf.Char (r : Nat) = true := fun r h => hr r (List.mem_append_left _ h)
  rw [h2', E_append, List.take_append_of_le_length (Nat.le_refl _), List.take_length]
  unfold nameR
  rw [runesW_E (E qs) qs 0 hq (by rw [List.drop_zero])]
  cases qs with
  | nil => rw [h2'] at h0; exact absurd rfl h0
  | cons q qs =>
    simp only
    rw [h4 rfl q rfl, h3 q (List.mem_cons_self ..), Bool.true_and, Bool.true_and, List.all_eq_true]
    exact fun x hx => h3 x (List.mem_cons_of_mem _ hx)
theorem name_V {r x : Tx} {n : Nat} (hv : V r) (h : name r = .ok x n) : nameR x = true ∧ V x ∧ V (r.drop n) := by
  obtain ⟨h1, h2, rfl, rfl⟩ := name_len h
  obtain ⟨g1, g2, _⟩ := nameL_V hv
  exact ⟨nameR_take hv (by omega), g1, g2⟩

/-! ### What is gone past leaves a valid text -/
theorem blanks_V {r : Tx} (h : V r) : V (r.drop (blanks r)) := by
  have e : r = r.takeWhile Qx.blank ++ r.drop (blanks r) := by
    have h1 := takeWhile_take Qx.blank r
    unfold blanks
    rw [← h1]
    conv => lhs; rw [← List.take_append_drop (r.takeWhile Qx.blank).length r]
    rw [h1]
  rw [e] at h
  refine h.drop fun c hc => ?_
  have hb := takeWhile_all Qx.blank r c hc
  unfold Qx.blank Blank at hb
  simp at hb
  omega
theorem eat_V {t r : Tx} {n : Nat} (hv : V r) (h : eat t r = .ok () n) (ht : ∀ c ∈ t, c.toNat < 128) : V (r.drop n) := by
  have key : ∀ {t r : Tx} {n : Nat}, eat t r = .ok () n → r = t ++ r.drop n := by
    intro t
    induction t with
    | nil =>
      intro r n h
      injection h with _ h
      subst h
      simp
    | cons c t ih =>
      intro r n h
      cases r with
      | nil => cases h
      | cons b r =>
        rw [eat] at h
        split at h
        · rename_i hb
          obtain ⟨m, hm, rfl⟩ := shift_ok h
          have := ih hm
          rw [Nat.add_comm 1 m, List.drop_succ_cons, List.cons_append, ← this, hb]
        · cases h
  rw [key h] at hv
  exact hv.drop ht
theorem upto_V {c : UInt8} {t r x : Tx} {n : Nat} (hv : V r) (h : upto (c :: t) r = .ok x n) (ht : ∀ b ∈ c :: t, b.toNat < 128) : V x ∧ V (r.drop n) := by
  obtain ⟨g1, g2, y, g3⟩ := upto_len h
  have hc := ht c (List.mem_cons_self ..)
  have e : r.drop n = y := by
    rw [g3, ← g2, ← List.length_append, List.drop_left]
  rw [e]
  rw [g3, List.append_assoc, List.cons_append] at hv
  obtain ⟨k1, k2⟩ := V.cut hc hv
  exact ⟨k1, k2.drop fun b hb => ht b (List.mem_cons_of_mem _ hb)⟩
theorem refV_char {t : Tx} {v : Nat} (h : refV t = some v) : Utf.Char (v : Nat) = true := by
  have hn : ∀ {base : Nat} {d : Tx} {v : Nat}, numR base d = some v → Utf.Char (v : Nat) = true := by
    intro base d v h
    unfold numR at h
    split at h
    · cases h
    · split at h
      · split at h
        · rename_i hc
          injection h with h
          rw [← h]
          exact hc
        · cases h
      · cases h
  unfold refV at h
  split at h
  · exact hn h
  · exact hn h
  · unfold named at h
    repeat (split at h; · (injection h with h; rw [← h]; decide))
    cases h
theorem refR_V {t v : Tx} {n : Nat} {c : UInt8} (hc : c.toNat < 128) (hv : V (c :: t)) (h : refR t = .ok v n) : V v ∧ V ((c :: t).drop n) := by
  have hg := refR_len h
  unfold refR at h
  cases hf : find [59] t with
  | none => rw [hf] at h; cases h
  | some m =>
    rw [hf] at h
    simp only at h
    obtain ⟨g1, y, g2⟩ := find_len hf
    cases hr : refV (t.take m) with
    | none => rw [hr] at h; cases h
    | some u =>
      rw [hr] at h
      injection h with h1 h2
      subst h1; subst h2
      refine ⟨V.enc (refV_char hr), ?_⟩
      have hvt := hv.tail hc
      rw [g2, List.append_assoc] at hvt
      obtain ⟨_, k2⟩ := V.cut (c := 59) (by decide) hvt
      have e : (c :: t).drop (m + 2) = y := by
        rw [show m + 2 = (m + 1) + 1 by omega, List.drop_succ_cons]
        conv => lhs; rw [g2]
        have : (t.take m ++ [59]).length = m + 1 := by
          rw [List.length_append, List.length_take]
          simp at g1 ⊢
          omega
        rw [← this, List.drop_left]
      rw [e]
      exact k2

/-- What was put together, and the part of a character that stands at its end. -/
def Half (out r : Tx) : Prop := ∃ o p, out = o ++ p ∧ V o ∧ V (p ++ r)
theorem Half.nil {r : Tx} (h : V r) : Half [] r := ⟨[], [], rfl, V.nil, h⟩
theorem Half.cut {out t : Tx} {c : UInt8} (h : Half out (c :: t)) (hc : c.toNat < 128) : V out ∧ V (c :: t) := by
  obtain ⟨o, p, rfl, h1, h2⟩ := h
  exact ⟨h1.append (V.cut hc h2).1, V.cons hc h2⟩
theorem Half.put {out t : Tx} {c : UInt8} (h : Half out (c :: t)) : Half (out ++ [c]) t := by
  obtain ⟨o, p, rfl, h1, h2⟩ := h
  exact ⟨o, p ++ [c], by simp, h1, by simpa using h2⟩
theorem line_V {c : UInt8} {t : Tx} (hc : c.toNat < 128) (h : V (c :: t)) : V ((c :: t).drop (line (c :: t))) := by
  unfold line
  split
  · rename_i hp
    obtain ⟨x, hx⟩ := List.isPrefixOf_iff_prefix.1 (show ([13, 10] : Tx).isPrefixOf (c :: t) = true from hp)
    rw [← hx] at h ⊢
    exact V.drop (a := [13, 10]) (b := x) h (by decide)
  · exact h.tail hc
theorem valF_V : ∀ {f : Nat} {q : UInt8} {r out v : Tx} {n : Nat}, q.toNat < 128 → valF f q r out = .ok v n → Half out r → V v ∧ V (r.drop n)
  | 0, q, r, out, v, n, _, h, _ => by cases h
  | f + 1, q, [], out, v, n, _, h, _ => by cases h
  | f + 1, q, c :: t, out, v, n, hq, h, hh => by
    rw [valF] at h
    split at h
    · rename_i h1
      injection h with h2 h3
      subst h2; subst h3; subst h1
      obtain ⟨k1, k2⟩ := hh.cut hq
      exact ⟨k1, k2.tail hq⟩
    · split at h
      · cases h
      · split at h
        · rename_i h1
          subst h1
          obtain ⟨k1, k2⟩ := hh.cut (by decide)
          cases hr : refR t with
          | bad e o => rw [hr] at h; cases h
          | ok u m =>
            rw [hr] at h
            obtain ⟨p, hp, rfl⟩ := shift_ok h
            obtain ⟨k3, k4⟩ := refR_V (by decide) k2 hr
            rw [← List.drop_drop]
            exact valF_V hq hp ⟨out ++ u, [], by simp, k1.append k3, k4⟩
        · split at h
          · rename_i h1
            have hc : c.toNat < 128 := by rcases h1 with rfl | rfl | rfl <;> decide
            obtain ⟨k1, k2⟩ := hh.cut hc
            obtain ⟨p, hp, rfl⟩ := shift_ok h
            rw [← List.drop_drop]
            exact valF_V hq hp ⟨out ++ [32], [], by simp, k1.append (V.one (by decide) (by decide)), line_V hc k2⟩
          · obtain ⟨p, hp, rfl⟩ := shift_ok h
            rw [Nat.add_comm 1 p, List.drop_succ_cons]
            exact valF_V hq hp hh.put
theorem value_V {r v : Tx} {n : Nat} (hv : V r) (h : value r = .ok v n) : V v ∧ V (r.drop n) := by
  cases r with
  | nil => cases h
  | cons q t =>
    rw [value] at h
    split at h
    · rename_i h1
      have hq : q.toNat < 128 := by rcases h1 with rfl | rfl <;> decide
      obtain ⟨p, hp, rfl⟩ := shift_ok h
      rw [Nat.add_comm 1 p, List.drop_succ_cons]
      exact valF_V hq hp (Half.nil (hv.tail hq))
    · cases h
theorem textF_V : ∀ {f : Nat} {r out v : Tx} {n : Nat}, textF f r out = .ok v n → Half out r → V v ∧ V (r.drop n)
  | 0, r, out, v, n, h, _ => by cases h
  | f + 1, [], out, v, n, h, hh => by
    injection h with h1 h2
    subst h1; subst h2
    obtain ⟨o, p, rfl, k1, k2⟩ := hh
    rw [List.append_nil] at k2
    exact ⟨k1.append k2, V.nil⟩
  | f + 1, c :: t, out, v, n, h, hh => by
    rw [textF] at h
    split at h
    · rename_i h1
      injection h with h2 h3
      subst h2; subst h3; subst h1
      exact hh.cut (by decide)
    · split at h
      · rename_i h1
        subst h1
        obtain ⟨k1, k2⟩ := hh.cut (by decide)
        cases hr : refR t with
        | bad e o => rw [hr] at h; cases h
        | ok u m =>
          rw [hr] at h
          obtain ⟨p, hp, rfl⟩ := shift_ok h
          obtain ⟨k3, k4⟩ := refR_V (by decide) k2 hr
          rw [← List.drop_drop]
          exact textF_V hp ⟨out ++ u, [], by simp, k1.append k3, k4⟩
      · split at h
        · rename_i h1
          subst h1
          obtain ⟨k1, k2⟩ := hh.cut (by decide)
          obtain ⟨p, hp, rfl⟩ := shift_ok h
          rw [← List.drop_drop]
          exact textF_V hp ⟨out ++ [10], [], by simp, k1.append (V.one (by decide) (by decide)), line_V (by decide) k2⟩
        · split at h
          · cases h
          · obtain ⟨p, hp, rfl⟩ := shift_ok h
            rw [Nat.add_comm 1 p, List.drop_succ_cons]
            exact textF_V hp hh.put

/-! ### Tags -/
def AtV (a : At) : Prop := nameR a.1 = true ∧ V a.2
theorem attr_V {there : List At} {r : Tx} {a : At} {n : Nat} (hv : V r) (h : attr there r = .ok a n) : AtV a ∧ V (r.drop n) := by
  unfold attr at h
  cases hn : name r with
  | bad c o => rw [hn] at h; cases h
  | ok nm n1 =>
    rw [hn] at h
    simp only at h
    obtain ⟨g1, g2, g3⟩ := name_V hv hn
    split at h
    · cases h
    · split at h
      · cases h
      · rename_i u m he
        have g4 := blanks_V g3
        rw [List.drop_drop] at g4
        have g5 := eat_V g4 he (by decide)
        rw [List.drop_drop] at g5
        have g6 := blanks_V g5
        rw [List.drop_drop] at g6
        split at h
        · cases h
        · rename_i v n2 hval
          injection h with h1 h2
          subst h1; subst h2
          obtain ⟨g7, g8⟩ := value_V g6 hval
          rw [List.drop_drop] at g8
          exact ⟨⟨g1, g7⟩, g8⟩
theorem tagF_V : ∀ {f : Nat} {r : Tx} {ats : List At} {v : Bool × List At} {n : Nat}, V r → tagF f r ats = .ok v n → (∀ a ∈ ats, AtV a) → (∀ a ∈ v.2, AtV a) ∧ V (r.drop n)
  | 0, r, ats, v, n, _, h, _ => by cases h
  | f + 1, r, ats, v, n, hv, h, ha => by
    have hb := blanks_V hv
    cases hd : r.drop (blanks r) with
    | nil => rw [tagF_nil f ats hd] at h; cases h
    | cons c t =>
      rw [hd] at hb
      rw [tagF_cons f ats hd] at h
      by_cases h1 : c = 62
      · rw [if_pos h1] at h
        injection h with h2 h3
        subst h2; subst h3; subst h1
        rw [← List.drop_drop, hd]
        exact ⟨ha, hb.tail (by decide)⟩
      · rw [if_neg h1] at h
        by_cases h2 : c = 47
        · rw [if_pos h2] at h
          cases he : eat [47, 62] (c :: t) with
          | bad e o => rw [he] at h; cases h
          | ok u m =>
            rw [he] at h
            injection h with h3 h4
            subst h3; subst h4
            have := eat_V hb he (by decide)
            rw [← List.drop_drop, hd]
            exact ⟨ha, this⟩
        · rw [if_neg h2] at h
          by_cases h3 : blanks r = 0
          · rw [if_pos h3] at h; cases h
          · rw [if_neg h3] at h
            cases hat : attr ats (c :: t) with
            | bad e o => rw [hat] at h; cases h
            | ok a m =>
              rw [hat] at h
              obtain ⟨p, hp, rfl⟩ := shift_ok h
              obtain ⟨g1, g2⟩ := attr_V hb hat
              have g3 := tagF_V g2 hp (fun x hx => by
                rcases List.mem_append.1 hx with hx | hx
                · exact ha x hx
                · rw [List.mem_singleton.1 hx]; exact g1)
              rw [List.drop_drop] at g3
              rw [← List.drop_drop, ← List.drop_drop, hd, List.drop_drop]
              exact g3

/-- What a token holds. -/
def named_ (k : Nat) : Bool := k == 1 || k == 2 || k == 3 || k == 7
structure TokV (t : Tok) : Prop where
  kind : 1 ≤ t.kind ∧ t.kind ≤ 7
  text : V t.text
  name : nameR t.name = named_ t.kind
  attrs : ∀ a ∈ t.attrs, AtV a
theorem nameR_nil : nameR [] = false := by decide +kernel
theorem hp_cut {p r : Tx} (h : Lib.hasPrefix r p = true) : ∃ x, r = p ++ x := by
  obtain ⟨x, hx⟩ := List.isPrefixOf_iff_prefix.1 (show p.isPrefixOf r = true from h)
  exact ⟨x, hx.symm⟩
theorem V.past {p r : Tx} (hv : V r) (h : Lib.hasPrefix r p = true) (hp : ∀ c ∈ p, c.toNat < 128) : V (r.drop p.length) := by
  obtain ⟨x, rfl⟩ := hp_cut h
  rw [List.drop_left]
  exact V.drop hv hp
theorem tag_V {r : Tx} {t : Tok} {n : Nat} (hv : V (r.drop 1)) (h : tag r = .ok t n) : TokV t ∧ V (r.drop n) ∧ t.kind ≠ 4 := by
  unfold tag at h
  split at h
  · cases h
  · rename_i nm m hn
    obtain ⟨g1, g2, g3⟩ := name_V hv hn
    rw [List.drop_drop] at g3
    split at h
    · cases h
    · rename_i e ats p ht
      injection h with h1 h2
      subst h1; subst h2
      obtain ⟨g4, g5⟩ := tagF_V g3 ht (fun a ha => by cases ha)
      rw [List.drop_drop] at g5
      exact ⟨⟨by cases e <;> simp, V.nil, by rw [g1]; cases e <;> rfl, g4⟩, g5, by cases e <;> simp⟩
theorem instr_V {r : Tx} {t : Tok} {n : Nat} (hv : V (r.drop 2)) (h : instr r = .ok t n) : TokV t ∧ V (r.drop n) ∧ t.kind ≠ 4 := by
  unfold instr at h
  split at h
  · cases h
  · rename_i nm m hn
    obtain ⟨g1, g2, g3⟩ := name_V hv hn
    rw [List.drop_drop] at g3
    split at h
    · cases h
    · split at h
      · split at h
        · cases h
        · rename_i u p he
          injection h with h1 h2
          subst h1; subst h2
          have g4 := eat_V g3 he (by decide)
          rw [List.drop_drop] at g4
          exact ⟨⟨by simp, V.nil, by rw [g1]; rfl, fun a ha => by cases ha⟩, g4, by simp⟩
      · have g4 := blanks_V g3
        rw [List.drop_drop] at g4
        split at h
        · cases h
        · rename_i x p hu
          injection h with h1 h2
          subst h1; subst h2
          obtain ⟨g5, g6⟩ := upto_V g4 hu (by decide)
          rw [List.drop_drop] at g6
          exact ⟨⟨by simp, V.lines _ (Nat.le_refl _) g5, by rw [g1]; rfl, fun a ha => by cases ha⟩, g6, by simp⟩
theorem comment_V {r : Tx} {t : Tok} {n : Nat} (hv : V (r.drop 4)) (h : comment r = .ok t n) : TokV t ∧ V (r.drop n) ∧ t.kind ≠ 4 := by
  unfold comment at h
  split at h
  · cases h
  · rename_i x m hu
    obtain ⟨g5, g6⟩ := upto_V hv hu (by decide)
    rw [List.drop_drop] at g6
    split at h
    · cases h
    · rename_i c y hd
      split at h
      · rename_i hc
        injection h with h1 h2
        subst h1; subst h2; subst hc
        rw [hd] at g6
        rw [← List.drop_drop, hd]
        exact ⟨⟨by simp, V.lines _ (Nat.le_refl _) g5, by rw [nameR_nil]; rfl, fun a ha => by cases ha⟩, g6.tail (by decide), by simp⟩
      · cases h
theorem cdata_V {r : Tx} {t : Tok} {n : Nat} (hv : V (r.drop 9)) (h : cdata r = .ok t n) : TokV t ∧ V (r.drop n) ∧ t.kind ≠ 4 := by
  unfold cdata at h
  split at h
  · cases h
  · rename_i x m hu
    obtain ⟨g5, g6⟩ := upto_V hv hu (by decide)
    rw [List.drop_drop] at g6
    injection h with h1 h2
    subst h1; subst h2
    exact ⟨⟨by simp, V.lines _ (Nat.le_refl _) g5, by rw [nameR_nil]; rfl, fun a ha => by cases ha⟩, g6, by simp⟩
theorem endT_V {r : Tx} {t : Tok} {n : Nat} (hv : V (r.drop 2)) (h : endT r = .ok t n) : TokV t ∧ V (r.drop n) ∧ t.kind ≠ 4 := by
  unfold endT at h
  split at h
  · cases h
  · rename_i nm m hn
    obtain ⟨g1, g2, g3⟩ := name_V hv hn
    rw [List.drop_drop] at g3
    have g4 := blanks_V g3
    rw [List.drop_drop] at g4
    split at h
    · cases h
    · rename_i u p he
      injection h with h1 h2
      subst h1; subst h2
      have g5 := eat_V g4 he (by decide)
      rw [List.drop_drop] at g5
      exact ⟨⟨by simp, V.nil, by rw [g1]; rfl, fun a ha => by cases ha⟩, g5, by simp⟩
theorem mark_V {r : Tx} {t : Tok} {n : Nat} (hv : V r) (h : mark r = .ok t n) : TokV t ∧ V (r.drop n) ∧ t.kind ≠ 4 := by
  unfold mark at h
  split at h
  · rename_i hp
    exact comment_V (V.past hv hp (by decide)) h
  · split at h
    · rename_i hp
      exact cdata_V (V.past hv hp (by decide)) h
    · split at h <;> cases h
theorem chars_V {r : Tx} {t : Tok} {n : Nat} (hv : V r) (h : chars r = .ok t n) : TokV t ∧ V (r.drop n) ∧ t.kind = 4 := by
  unfold chars at h
  split at h
  · cases h
  · rename_i x m ht
    injection h with h1 h2
    subst h1; subst h2
    obtain ⟨g1, g2⟩ := textF_V ht (Half.nil hv)
    exact ⟨⟨by simp, g1, by rw [nameR_nil]; rfl, fun a ha => by cases ha⟩, g2, rfl⟩
theorem head_60 {r : Tx} (h : ¬ r.head? ≠ some 60) : ∃ t, r = 60 :: t := by
  cases r with
  | nil => exact absurd (by simp) h
  | cons c t =>
    simp at h
    exact ⟨t, by rw [h]⟩
theorem token_V {r : Tx} {t : Tok} {n : Nat} (hv : V r) (h : token r = .ok t n) : TokV t ∧ V (r.drop n) ∧ (t.kind = 4 ↔ r.head? ≠ some 60) := by
  unfold token at h
  split at h
  · rename_i h1
    obtain ⟨g1, g2, g3⟩ := chars_V hv h
    exact ⟨g1, g2, fun _ => h1, fun _ => g3⟩
  · rename_i h1
    have fin : (TokV t ∧ V (r.drop n) ∧ t.kind ≠ 4) → TokV t ∧ V (r.drop n) ∧ (t.kind = 4 ↔ r.head? ≠ some 60) := fun ⟨g1, g2, g3⟩ => ⟨g1, g2, fun e => absurd e g3, fun e => absurd e h1⟩
    split at h
    · exact fin (mark_V hv h)
    · split at h
      · rename_i hp
        exact fin (instr_V (V.past hv hp (by decide)) h)
      · split at h
        · rename_i hp
          exact fin (endT_V (V.past hv hp (by decide)) h)
        · obtain ⟨s, rfl⟩ := head_60 h1
          exact fin (tag_V (hv.tail (by decide)) h)
theorem decl_V {S : Tx} {n : Nat} (hv : V S) (h : decl S = .ok () n) : V (S.drop n) := by
  unfold decl at h
  split at h
  · rename_i hp
    have g1 := V.past hv hp.1 (by decide)
    split at h
    · cases h
    · rename_i x m hu
      obtain ⟨_, g2⟩ := upto_V (r := S.drop 5) g1 hu (by decide)
      rw [List.drop_drop] at g2
      split at h
      · injection h with _ h2
        subst h2
        exact g2
      · cases h
  · injection h with _ h2
    subst h2
    exact hv
end Go.Proofs.YtokdnhdfmgfkeaaGreatDoor.Xl
end

section
namespace Go.Proofs.YtokdnhdfmgfkeaaGreatDoor.Xl
open Go.RowKit UtfW Qx

theorem textF_end : ∀ {f : Nat} {r out v : Tx} {n : Nat}, textF f r out = .ok v n → r.drop n = [] ∨ (r.drop n).head? = some 60
  | 0, r, out, v, n, h => by cases h
  | f + 1, [], out, v, n, h => by simp
  | f + 1, c :: t, out, v, n, h => by
    rw [textF] at h
    split at h
    · rename_i h1
      injection h with h2 h3
      subst h3; subst h1
      exact .inr rfl
    · split at h
      · cases hr : refR t with
        | bad e o => rw [hr] at h; cases h
        | ok u m =>
          rw [hr] at h
          obtain ⟨p, hp, rfl⟩ := shift_ok h
          rw [← List.drop_drop]
          exact textF_end hp
      · split at h
        · obtain ⟨p, hp, rfl⟩ := shift_ok h
          rw [← List.drop_drop]
          exact textF_end hp
        · split at h
          · cases h
          · obtain ⟨p, hp, rfl⟩ := shift_ok h
            rw [Nat.add_comm 1 p, List.drop_succ_cons]
            exact textF_end hp
theorem token_end {r : Tx} {t : Tok} {n : Nat} (h : token r = .ok t n) (h1 : r.head? ≠ some 60) : r.drop n = [] ∨ (r.drop n).head? = some 60 := by
  unfold token at h
  rw [if_pos h1] at h
  unfold chars at h
  split at h
  · cases h
  · rename_i x m ht
    injection h with h2 h3
    subst h3
    exact textF_end ht

/-- A token of a document. -/
structure TokOk (S : Tx) (t : Tok) : Prop where
  v : TokV t
  lt : t.at_ < S.length
  tag : t.kind ≠ 4 → S[t.at_]? = some 60
/-- Two tokens, one behind the other. -/
def Next (a b : Tok) : Prop := a.at_ < b.at_ ∧ ¬(a.kind = 4 ∧ b.kind = 4)
structure Toks (S : Tx) (k : Nat) (ts : List Tok) : Prop where
  each : ∀ t ∈ ts, TokOk S t
  next : ∀ i a b, ts[i]? = some a → ts[i + 1]? = some b → Next a b
  last : ∀ a, ts.getLast? = some a → a.at_ < k ∧ (a.kind = 4 → S.drop k = [] ∨ (S.drop k).head? = some 60)
theorem Toks.nil (S : Tx) (k : Nat) : Toks S k [] := ⟨fun t h => (by cases h), fun i a b h => (by simp at h), fun a h => (by cases h)⟩
theorem Toks.snoc {S : Tx} {k n : Nat} {ts : List Tok} {t : Tok} (h : Toks S k ts) (hk : k < S.length) (ht : TokV t) (h0 : t.kind ≠ 4 → (S.drop k).head? = some 60) (h00 : t.kind = 4 → (S.drop k).head? ≠ some 60) (hn : 1 ≤ n)
    (he : t.kind = 4 → S.drop (k + n) = [] ∨ (S.drop (k + n)).head? = some 60) : Toks S (k + n) (ts ++ [{ t with at_ := k }]) := by
  have hT : TokOk S { t with at_ := k } := ⟨⟨ht.kind, ht.text, ht.name, ht.attrs⟩, hk, fun e => by
    have := h0 e
    rw [List.head?_drop] at this
    exact this⟩
  refine ⟨fun x hx => ?_, fun i a b ha hb => ?_, fun a ha => ?_⟩
  · rcases List.mem_append.1 hx with hx | hx
    · exact h.each x hx
    · rw [List.mem_singleton.1 hx]; exact hT
  · rcases Nat.lt_or_ge (i + 1) ts.length with hi | hi
    · rw [List.getElem?_append_left hi] at hb
      rw [List.getElem?_append_left (by omega)] at ha
      exact h.next i a b ha hb
    · have hlt := (List.getElem?_eq_some_iff.1 hb).1
      rw [List.length_append] at hlt
      simp at hlt
      have hi1 : i + 1 = ts.length := by omega
      rw [List.getElem?_append_right (by omega), hi1, Nat.sub_self] at hb
      rw [List.getElem?_append_left (by omega)] at ha
      simp at hb
      have hl : ts.getLast? = some a := by rw [List.getLast?_eq_getElem?, ← hi1, Nat.add_sub_cancel]; exact ha
      obtain ⟨g1, g2⟩ := h.last a hl
      subst hb
      refine ⟨g1, fun ⟨e1, e2⟩ => ?_⟩
      rcases g2 e1 with g | g
      · have := congrArg List.length g
        simp at this
        omega
      · exact h00 e2 g
  · rw [List.getLast?_append] at ha
    simp at ha
    subst ha
    exact ⟨by simp only; omega, he⟩

theorem runF_ok {S : Tx} : ∀ (f : Nat) {k : Nat} {ts us : List Tok} {p : Nat}, V (S.drop k) → Toks S k ts → runF f (S.drop k) k ts = (0, p, us) → ∃ k', Toks S k' us
  | 0, k, ts, us, p, hv, hT, h => by
    injection h with _ h
    injection h with _ h
    subst h
    exact ⟨k, hT⟩
  | f + 1, k, ts, us, p, hv, hT, h => by
    rw [runF] at h
    split at h
    · injection h with _ h
      injection h with _ h
      subst h
      exact ⟨k, hT⟩
    · rename_i hne
      have hk : k < S.length := by
        rcases Nat.lt_or_ge k S.length with g | g
        · exact g
        · exact absurd (List.drop_eq_nil_of_le g) hne
      cases ht : token (S.drop k) with
      | bad c o =>
        rw [ht] at h
        injection h with h1 h
        injection h with h2 h
        subst h
        exact ⟨0, Toks.nil S 0⟩
      | ok t n =>
        rw [ht] at h
        obtain ⟨g1, g2, g3⟩ := token_V hv ht
        obtain ⟨g4, _⟩ := token_len ht hne
        rw [List.drop_drop] at g2
        simp only [List.drop_drop] at h
        refine runF_ok f g2 (hT.snoc hk g1 (fun e => ?_) (fun e => g3.1 e) g4 (fun e => ?_)) h
        · exact Classical.byContradiction fun hc => e (g3.2 hc)
        · have := token_end ht (g3.1 e)
          rw [List.drop_drop] at this
          exact this

/-- What the law XlexPlaces asks of the tokens. -/
theorem places {S : Tx} {ts : List Tok} {p : Nat} (h : allF S = (0, p, ts)) : (∀ t ∈ ts, TokOk S t) ∧ ∀ i a b, ts[i]? = some a → ts[i + 1]? = some b → Next a b := by
  unfold allF at h
  split at h
  · cases h
  · split at h
    · cases h
    · rename_i hb
      have hv : V S := V_of_bad (by omega)
      cases hd : decl S with
      | bad c o =>
        rw [hd] at h
        injection h with h1 h
        injection h with h2 h
        subst h
        exact ⟨fun t h => (by cases h), fun i a b h => (by simp at h)⟩
      | ok u n =>
        rw [hd] at h
        obtain ⟨k', hT⟩ := runF_ok _ (decl_V hv hd) (Toks.nil S n) h
        exact ⟨hT.each, hT.next⟩
theorem run_bad : ∀ (f : Nat) {r : Tx} {k : Nat} {ts us : List Tok} {c : Int} {p : Nat}, runF f r k ts = (c, p, us) → c ≠ 0 → us = []
  | 0, r, k, ts, us, c, p, h, hc => by
    injection h with h _
    exact absurd h.symm hc
  | f + 1, r, k, ts, us, c, p, h, hc => by
    rw [runF] at h
    split at h
    · injection h with h _
      exact absurd h.symm hc
    · cases ht : token r with
      | bad d o =>
        rw [ht] at h
        injection h with h1 h
        injection h with h2 h
        exact h.symm
      | ok t n =>
        rw [ht] at h
        exact run_bad f h hc
theorem all_bad {S : Tx} {c : Int} {p : Nat} {ts : List Tok} (h : allF S = (c, p, ts)) (hc : c ≠ 0) : ts = [] := by
  unfold allF at h
  split at h
  · injection h with _ h
    injection h with _ h
    exact h.symm
  · split at h
    · injection h with _ h
      injection h with _ h
      exact h.symm
    · cases hd : decl S with
      | bad c o =>
        rw [hd] at h
        injection h with h1 h
        injection h with h2 h
        exact h.symm
      | ok u n =>
        rw [hd] at h
        exact run_bad _ h hc
end Go.Proofs.YtokdnhdfmgfkeaaGreatDoor.Xl
end

section
namespace Go.Proofs.YtokdnhdfmgfkeaaGreatDoor.Xl
open Go.RowKit UtfW Qx

/-! ### Plain characters -/
theorem lines_13 {t : Tx} : Utf.lines (13 :: t) = 10 :: Utf.lines ((13 :: t).drop (line (13 :: t))) := by
  rw [Utf.lines, if_pos rfl]
  unfold line
  cases t with
  | nil => rfl
  | cons b t =>
    by_cases hb : b = 10
    · subst hb
      have : Lib.hasPrefix (13 :: 10 :: t) [13, 10] = true := by simp [Lib.hasPrefix, List.isPrefixOf]
      rw [if_pos (show (10 :: t).head? = some 10 from rfl), if_pos this, Utf.lines, if_neg (by decide)]
      rfl
    · have : Lib.hasPrefix (13 :: b :: t) [13, 10] = false := by
        simp only [Lib.hasPrefix, List.isPrefixOf, Bool.and_eq_false_iff]
        exact .inr (.inl (by rw [beq_eq_false_iff_ne]; exact fun e => hb e.symm))
      rw [if_neg (by simp; exact hb), this]
      rfl
theorem line_mem {r : Tx} {c : UInt8} (h : c ∉ r) (n : Nat) : c ∉ r.drop n := fun hm => h (List.mem_of_mem_drop hm)
theorem textF_plain : ∀ (f : Nat) {r out : Tx}, r.length < f → 60 ∉ r → 38 ∉ r → 93 ∉ r → textF f r out = .ok (out ++ Utf.lines r) r.length
  | 0, r, out, h, _, _, _ => absurd h (by omega)
  | f + 1, [], out, h, _, _, _ => by
    rw [textF]
    simp [Utf.lines]
  | f + 1, c :: t, out, h, h1, h2, h3 => by
    have e1 : c ≠ 60 := fun e => h1 (by rw [e]; exact List.mem_cons_self ..)
    have e2 : c ≠ 38 := fun e => h2 (by rw [e]; exact List.mem_cons_self ..)
    have e3 : c ≠ 93 := fun e => h3 (by rw [e]; exact List.mem_cons_self ..)
    rw [textF, if_neg e1, if_neg e2]
    by_cases h13 : c = 13
    · subst h13
      have hl := line_len (c := 13) t
      rw [if_pos rfl, textF_plain f (by rw [List.length_drop]; simp at h hl ⊢; omega) (line_mem h1 _) (line_mem h2 _) (line_mem h3 _), lines_13]
      simp only [Out.shift, List.append_assoc, List.singleton_append, List.length_drop]
      congr 1
      omega
    · have hp : Lib.hasPrefix (c :: t) [93, 93, 62] = false := by
        simp only [Lib.hasPrefix, List.isPrefixOf, Bool.and_eq_false_iff]
        exact .inl (by rw [beq_eq_false_iff_ne]; exact fun e => e3 e.symm)
      rw [if_neg h13, hp]
      simp only [Bool.false_eq_true, if_false]
      have m : ∀ {x : UInt8}, x ∉ c :: t → x ∉ t := fun h hm => h (List.mem_cons_of_mem _ hm)
      rw [textF_plain f (by simp at h; omega) (m h1) (m h2) (m h3), Utf.lines, if_neg h13]
      simp only [Out.shift, List.append_assoc, List.singleton_append, List.length_cons]
      congr 1
      omega
theorem decl_not {S : Tx} (h : S.head? ≠ some 60) : decl S = .ok () 0 := by
  unfold decl
  rw [if_neg]
  rintro ⟨hp, _⟩
  obtain ⟨x, rfl⟩ := hp_cut hp
  exact h rfl
theorem plain_ok {s : Tx} (hl : s.length ≤ 65536) (hb : badW s 0 < 0) (h0 : s ≠ []) (h1 : 60 ∉ s) (h2 : 38 ∉ s) (h3 : 93 ∉ s) : allF s = (0, 0, [⟨4, 0, [], Utf.lines s, []⟩]) ∨ ∃ p, allF s = (0, p, [⟨4, 0, [], Utf.lines s, []⟩]) := by
  right
  have hh : s.head? ≠ some 60 := fun e => h1 (List.mem_of_head? e)
  unfold allF
  rw [if_neg (by omega), if_neg (by omega), decl_not hh]
  simp only [List.drop_zero]
  rw [runF, if_neg h0]
  unfold token chars
  rw [if_pos hh, textF_plain _ (by omega) h1 h2 h3]
  simp only [List.nil_append]
  refine ⟨0, ?_⟩
  cases s with
  | nil => exact absurd rfl h0
  | cons c t =>
    rw [List.length_cons, runF, if_pos (by rw [← List.length_cons (a := c), List.drop_length])]
theorem plain_nil : allF [] = (0, 0, []) := by decide +kernel
theorem all_bad' {s : Tx} (hl : s.length ≤ 65536) (hb : 0 ≤ badW s 0) : allF s = (1, (badW s 0).toNat, []) := by
  unfold allF
  rw [if_neg (by omega), if_pos hb]

/-! ### Numbers -/
def hexc (d : Nat) : UInt8 := if d < 10 then UInt8.ofNat (48 + d) else UInt8.ofNat (87 + d)
theorem digV_hexc : ∀ d : Fin 16, digV (hexc d.val) = d.val := by decide
theorem digV_hexc' {d : Nat} (h : d < 16) : digV (hexc d) = d := digV_hexc ⟨d, h⟩
/-- The digits of a number ahead of some text. -/
def digs (base : Nat) : Nat → Nat → Tx → Tx
  | 0, _, out => out
  | f + 1, v, out => if v = 0 then out else digs base f (v / base) (hexc (v % base) :: out)
def vl (base : Nat) (t : Tx) (a : Nat) : Nat := t.foldl (fun v c => v * base + digV c) a
theorem numF_val (base : Nat) (hb : 1 ≤ base) : ∀ (t : Tx) (a : Nat), (∀ c ∈ t, digV c < base) → numF base t (min a 1114112) = some (min (vl base t a) 1114112)
  | [], a, _ => rfl
  | c :: t, a, h => by
    rw [numF, if_pos (h c (List.mem_cons_self ..))]
    have e : min (min a 1114112 * base + digV c) 1114112 = min (a * base + digV c) 1114112 := by
      rcases Nat.le_total a 1114112 with g | g
      · rw [Nat.min_eq_left g]
      · rw [Nat.min_eq_right g]
        have h1 : 1114112 ≤ 1114112 * base := Nat.le_mul_of_pos_right _ hb
        have h2 : 1114112 * base ≤ a * base := Nat.mul_le_mul_right _ g
        omega
    rw [e, numF_val base hb t _ fun x hx => h x (List.mem_cons_of_mem _ hx)]
    rfl
theorem digs_vl (base : Nat) (hb : 2 ≤ base) (hb2 : base ≤ 16) : ∀ (f v : Nat) (out : Tx), v < base ^ f → vl base (digs base f v out) 0 = vl base out v
  | 0, v, out, h => by
    have : v = 0 := by simpa using h
    subst this
    rfl
  | f + 1, v, out, h => by
    rw [digs]
    split
    · rename_i h0
      subst h0
      rfl
    · have h1 : v / base < base ^ f := Nat.div_lt_of_lt_mul (by rw [Nat.pow_succ, Nat.mul_comm] at h; exact h)
      rw [digs_vl base hb hb2 f (v / base) _ h1]
      show vl base out (v / base * base + digV (hexc (v % base))) = _
      rw [digV_hexc' (by have := Nat.mod_lt v (show 0 < base by omega); omega)]
      congr 1
      have := Nat.div_add_mod v base
      rw [Nat.mul_comm] at this
      exact this
theorem digs_ok (base : Nat) (hb : 2 ≤ base) (hb2 : base ≤ 16) : ∀ (f v : Nat) (out : Tx), (∀ c ∈ out, digV c < base) → ∀ c ∈ digs base f v out, digV c < base
  | 0, v, out, h => h
  | f + 1, v, out, h => by
    rw [digs]
    split
    · exact h
    · refine digs_ok base hb hb2 f _ _ fun c hc => ?_
      rcases List.mem_cons.1 hc with rfl | hc
      · have := Nat.mod_lt v (show 0 < base by omega)
        rw [digV_hexc' (by omega)]
        exact this
      · exact h c hc
theorem digs_ne (base : Nat) : ∀ (f v : Nat) (out : Tx), out ≠ [] → digs base f v out ≠ []
  | 0, v, out, h => h
  | f + 1, v, out, h => by
    rw [digs]
    split
    · exact h
    · exact digs_ne base f _ _ (by simp)
/-- A number as the law writes it. -/
def numT (base : Nat) (n : Int) : Tx := if n = 0 then [48] else if n < 0 then 45 :: digs base 64 n.natAbs [] else digs base 64 n.natAbs []
theorem numR_numT {base : Nat} (hb : 2 ≤ base) (hb2 : base ≤ 16) {n : Int} (hn : n.natAbs < 4294967296) : numR base (numT base n) = if Utf.Char n then some n.toNat else none := by
  have hpow : n.natAbs < base ^ 64 := by
    have h1 : 2 ^ 64 ≤ base ^ 64 := Nat.pow_le_pow_left hb 64
    omega
  unfold numT
  by_cases h0 : n = 0
  · subst h0
    rw [if_pos rfl]
    have h1 : digV 48 = 0 := by decide
    unfold numR
    rw [if_neg (by simp), numF, if_pos (by rw [h1]; omega), h1, numF]
    simp
  · rw [if_neg h0]
    by_cases h1 : n < 0
    · rw [if_pos h1]
      have h2 : digV 45 = 99 := by decide
      unfold numR
      rw [if_neg (by simp), numF, if_neg (by rw [h2]; omega), if_neg]
      unfold Utf.Char
      rw [decide_eq_true_eq]
      omega
    · rw [if_neg h1]
      have hne : digs base 64 n.natAbs [] ≠ [] := by
        show digs base (63 + 1) n.natAbs [] ≠ []
        rw [digs, if_neg (by omega)]
        exact digs_ne base 63 _ _ (by simp)
      have hv := digs_vl base hb hb2 64 n.natAbs [] hpow
      have hok := digs_ok base hb hb2 64 n.natAbs [] (fun c h => by cases h)
      have hF := numF_val base (by omega) _ 0 hok
      rw [hv] at hF
      unfold numR
      rw [if_neg hne, show (0 : Nat) = min 0 1114112 from rfl, hF]
      simp only
      have e : vl base [] n.natAbs = n.natAbs := rfl
      rw [e]
      have en : ((n.natAbs : Nat) : Int) = n := by omega
      by_cases hc : Utf.Char n = true
      · have hlt : n.natAbs ≤ 1114111 := by
          unfold Utf.Char at hc
          rw [decide_eq_true_eq] at hc
          omega
        rw [Nat.min_eq_left (by omega), en, if_pos hc, if_pos hc]
        congr 1
        omega
      · rw [if_neg hc, if_neg]
        rcases Nat.le_total n.natAbs 1114112 with g | g
        · rw [Nat.min_eq_left g, en]
          exact hc
        · rw [Nat.min_eq_right g]
          decide
theorem numT_bytes {base : Nat} (hb : 2 ≤ base) (hb2 : base ≤ 16) (n : Int) : ∀ c ∈ numT base n, c = 45 ∨ digV c < base := by
  unfold numT
  split
  · intro c hc
    rw [List.mem_singleton.1 hc]
    right
    rw [show digV 48 = 0 by decide]
    omega
  · split
    · intro c hc
      rcases List.mem_cons.1 hc with rfl | hc
      · exact .inl rfl
      · exact .inr (digs_ok base hb hb2 64 _ [] (fun c h => by cases h) c hc)
    · intro c hc
      exact .inr (digs_ok base hb hb2 64 _ [] (fun c h => by cases h) c hc)
theorem dig_byte : ∀ c : Fin 256, digV (UInt8.ofNat c.val) < 16 → (UInt8.ofNat c.val).toNat < 128 ∧ Utf.Char ((UInt8.ofNat c.val).toNat : Nat) = true ∧ UInt8.ofNat c.val ≠ 59 ∧ UInt8.ofNat c.val ≠ 120 := by decide +kernel
theorem num_byte {c : UInt8} (h : c = 45 ∨ digV c < 16) : c.toNat < 128 ∧ Utf.Char (c.toNat : Nat) = true ∧ c ≠ 59 ∧ c ≠ 120 := by
  rcases h with rfl | h
  · decide
  · have := dig_byte ⟨c.toNat, UInt8.toNat_lt c⟩
    simp only [UInt8.ofNat_toNat] at this
    exact this h
theorem find_semi : ∀ {x : Tx}, 59 ∉ x → ∀ t, find [59] (x ++ 59 :: t) = some x.length
  | [], _, t => by
    rw [List.nil_append, find, if_pos (by simp [List.isPrefixOf])]
    rfl
  | b :: x, h, t => by
    rw [List.mem_cons, not_or] at h
    rw [List.cons_append, find, if_neg, find_semi h.2 t]
    · rfl
    · simp only [List.isPrefixOf, Bool.and_true, beq_iff_eq]
      exact h.1
theorem refR_of {x : Tx} (h : 59 ∉ x) (t : Tx) : refR (x ++ 59 :: t) = match refV x with
    | none => .bad 5 0
    | some v => .ok (encB (v : Nat)) (x.length + 2) := by
  unfold refR
  rw [find_semi h t]
  simp only
  rw [List.take_left]
  rfl
theorem refV_dec {d : Tx} (h : d.head? ≠ some 120) : refV (35 :: d) = numR 10 d := by
  cases d with
  | nil => rfl
  | cons b d =>
    have hb : b ≠ 120 := fun e => h (by rw [e]; rfl)
    unfold refV
    split
    · rename_i x heq
      injection heq with _ heq
      injection heq with heq _
      exact absurd heq hb
    · rename_i x heq
      injection heq with _ heq
      rw [heq]
    · rename_i h1 h2
      exact absurd rfl (h2 (b :: d))

/-- The law's document of a rune told by references. -/
def docR (n : Int) : Tx := [60, 97, 62, 38, 35] ++ numT 10 n ++ [59, 38, 35, 120] ++ numT 16 n ++ [59, 60, 47, 97, 62]
theorem name_a (b : UInt8) (t : Tx) (h : b.toNat < 128) (hc : Utf.Char (b.toNat : Nat) = true) (hg : GoesOn (b.toNat : Nat) = false) : name (97 :: b :: t) = .ok [97] 1 := by
  have e1 := nameF_E (t.length + 2) true (v := 97) (by decide) (b :: t)
  rw [show encB ((97 : Nat) : Int) = [97] from encB_byte (c := 97) (by decide)] at e1
  have e2 := nameF_E (t.length + 1) false (v := b.toNat) hc t
  rw [encB_byte h, hg] at e2
  have h1 : Begins ((97 : Nat) : Int) = true := by decide
  have h2 : GoesOn ((97 : Nat) : Int) = true := by decide
  rw [h1, h2] at e1
  simp only [List.singleton_append] at e1 e2
  rw [e2] at e1
  have hn : nameL (97 :: b :: t) = 1 := by
    unfold nameL
    simpa using e1
  unfold name
  rw [if_neg (by simp), hn]
  rfl
theorem tag_a (b : UInt8) (t : Tx) : tag (60 :: 97 :: 62 :: b :: t) = .ok ⟨1, 0, [97], [], []⟩ 3 := by
  unfold tag
  rw [List.drop_succ_cons, List.drop_zero, name_a 62 (b :: t) (by decide) (by decide) (by decide)]
  simp only
  have hb : blanks (62 :: b :: t) = 0 := by
    unfold blanks
    rw [List.takeWhile_cons, if_neg (by decide)]
    rfl
  have hd : (62 :: b :: t).drop (blanks (62 :: b :: t)) = 62 :: b :: t := by rw [hb]; rfl
  have : (60 :: 97 :: 62 :: b :: t).drop (1 + 1) = 62 :: b :: t := rfl
  rw [this, tagF_cons _ [] hd, if_pos rfl, hb]
  rfl
theorem end_a : endT [60, 47, 97, 62] = .ok ⟨3, 0, [97], [], []⟩ 4 := by decide +kernel
theorem token_end_a : token [60, 47, 97, 62] = .ok ⟨3, 0, [97], [], []⟩ 4 := by decide +kernel
theorem docR_V (n : Int) : V (docR n) := by
  refine V.all fun c hc => ?_
  unfold docR at hc
  simp only [List.mem_append] at hc
  have lit : ∀ {l : Tx}, (∀ c ∈ l, c.toNat < 128 ∧ Utf.Char (c.toNat : Nat) = true) → c ∈ l → c.toNat < 128 ∧ Utf.Char (c.toNat : Nat) = true := fun h hm => h c hm
  rcases hc with (((hc | hc) | hc) | hc) | hc
  · exact lit (by decide) hc
  · have := num_byte (by
      rcases numT_bytes (by decide) (by decide) n c hc with h | h
      · exact .inl h
      · exact .inr (by omega))
    exact ⟨this.1, this.2.1⟩
  · exact lit (by decide) hc
  · have := num_byte (numT_bytes (by decide) (by decide) n c hc)
    exact ⟨this.1, this.2.1⟩
  · exact lit (by decide) hc
theorem digs_len (base : Nat) : ∀ (f v : Nat) (out : Tx), (digs base f v out).length ≤ f + out.length
  | 0, v, out => by simp [digs]
  | f + 1, v, out => by
    rw [digs]
    split
    · omega
    · have := digs_len base f (v / base) (hexc (v % base) :: out)
      simp at this
      omega
theorem numT_len (base : Nat) (n : Int) : (numT base n).length ≤ 65 := by
  unfold numT
  have := digs_len base 64 n.natAbs []
  split
  · simp
  · split
    · simp at this ⊢; omega
    · simp at this; omega
theorem docR_eq {n : Int} (hn : n.natAbs < 4294967296) : allF (docR n) = if Utf.Char n then (0, 0, [⟨1, 0, [97], [], []⟩, ⟨4, 3, [], encB n ++ encB n, []⟩, ⟨3, (docR n).length - 4, [97], [], []⟩]) else (5, 3, []) := by
  have hb : badW (docR n) 0 = -1 := badW_V (docR_V n)
  have hl1 := numT_len 10 n
  have hl2 := numT_len 16 n
  have hlen : (docR n).length = (numT 10 n).length + (numT 16 n).length + 14 := by unfold docR; simp; omega
  have hdecl : decl (docR n) = .ok () 0 := by
    unfold decl docR
    rw [if_neg]
    rintro ⟨hp, _⟩
    simp [Lib.hasPrefix, xmlT, List.isPrefixOf] at hp
  have h10 : numR 10 (numT 10 n) = if Utf.Char n then some n.toNat else none := numR_numT (by decide) (by decide) hn
  have h16 : numR 16 (numT 16 n) = if Utf.Char n then some n.toNat else none := numR_numT (by decide) (by decide) hn
  have s10 : 59 ∉ 35 :: numT 10 n := by
    rw [List.mem_cons, not_or]
    refine ⟨by decide, fun h => ?_⟩
    exact (num_byte (by rcases numT_bytes (by decide) (by decide) n 59 h with h | h; exact .inl h; exact .inr (by omega))).2.2.1 rfl
  have s16 : 59 ∉ 35 :: 120 :: numT 16 n := by
    rw [List.mem_cons, List.mem_cons, not_or, not_or]
    refine ⟨by decide, by decide, fun h => ?_⟩
    exact (num_byte (numT_bytes (by decide) (by decide) n 59 h)).2.2.1 rfl
  have x10 : (numT 10 n).head? ≠ some 120 := fun h => by
    have hm := List.mem_of_head? h
    exact (num_byte (by rcases numT_bytes (by decide) (by decide) n 120 hm with h | h; exact .inl h; exact .inr (by omega))).2.2.2 rfl
  have r10 := fun t => refR_of s10 t
  have r16 := fun t => refR_of s16 t
  rw [refV_dec x10, h10] at r10
  rw [show refV (35 :: 120 :: numT 16 n) = numR 16 (numT 16 n) from rfl, h16] at r16
  have ed : docR n = 60 :: 97 :: 62 :: 38 :: ((35 :: numT 10 n) ++ 59 :: 38 :: ((35 :: 120 :: numT 16 n) ++ 59 :: [60, 47, 97, 62])) := by unfold docR; simp
  unfold allF
  rw [if_neg (by omega), if_neg (by omega), hdecl]
  simp only [List.drop_zero]
  rw [hlen, show (numT 10 n).length + (numT 16 n).length + 14 + 1 = ((numT 10 n).length + (numT 16 n).length + 11 + 1 + 1 + 1) + 1 by omega, runF, if_neg (by rw [ed]; simp)]
  have ht : token (docR n) = .ok ⟨1, 0, [97], [], []⟩ 3 := by
    unfold token
    rw [if_neg (by rw [ed]; simp), if_neg (by rw [ed]; simp [Lib.hasPrefix, List.isPrefixOf]), if_neg (by rw [ed]; simp [Lib.hasPrefix, List.isPrefixOf]), if_neg (by rw [ed]; simp [Lib.hasPrefix, List.isPrefixOf]), ed]
    exact tag_a _ _
  rw [ht]
  simp only [List.nil_append, Nat.zero_add]
  have e3 : (docR n).drop 3 = 38 :: ((35 :: numT 10 n) ++ 59 :: 38 :: ((35 :: 120 :: numT 16 n) ++ 59 :: [60, 47, 97, 62])) := by rw [ed]; rfl
  rw [e3, runF, if_neg (by simp)]
  unfold token chars
  rw [if_pos (by simp)]
  rw [textF, if_neg (by decide), if_pos rfl, r10]
  by_cases hc : Utf.Char n = true
  · rw [if_pos hc, if_pos hc]
    have hn0 : ((n.toNat : Nat) : Int) = n := by
      unfold Utf.Char at hc
      rw [decide_eq_true_eq] at hc
      omega
    simp only [hn0, List.nil_append]
    have d1 : (38 :: (35 :: numT 10 n ++ 59 :: 38 :: (35 :: 120 :: numT 16 n ++ 59 :: [60, 47, 97, 62]))).drop ((35 :: numT 10 n).length + 2) = 38 :: (35 :: 120 :: numT 16 n ++ 59 :: [60, 47, 97, 62]) := by
      rw [show (35 :: numT 10 n).length + 2 = (35 :: numT 10 n).length + 1 + 1 by omega, List.drop_succ_cons, ← List.drop_drop, List.drop_left]
      rfl
    rw [d1]
    have fl : (38 :: (35 :: numT 10 n ++ 59 :: 38 :: (35 :: 120 :: numT 16 n ++ 59 :: [60, 47, 97, 62]))).length = ((numT 10 n).length + (numT 16 n).length + 9) + 1 + 1 := by simp; omega
    rw [fl, textF, if_neg (by decide), if_pos rfl, r16, if_pos hc]
    simp only [hn0]
    have d2 : (38 :: (35 :: 120 :: numT 16 n ++ 59 :: [60, 47, 97, 62])).drop ((35 :: 120 :: numT 16 n).length + 2) = [60, 47, 97, 62] := by
      rw [show (35 :: 120 :: numT 16 n).length + 2 = (35 :: 120 :: numT 16 n).length + 1 + 1 by omega, List.drop_succ_cons, ← List.drop_drop, List.drop_left]
      rfl
    rw [d2, textF, if_pos rfl]
    simp only [Out.shift]
    have d3 : (38 :: (35 :: numT 10 n ++ 59 :: 38 :: (35 :: 120 :: numT 16 n ++ 59 :: [60, 47, 97, 62]))).drop ((35 :: numT 10 n).length + 2 + ((35 :: 120 :: numT 16 n).length + 2 + 0)) = [60, 47, 97, 62] := by
      rw [← List.drop_drop, d1, Nat.add_zero, d2]
    rw [d3, runF, if_neg (by simp), token_end_a]
    simp only
    have ek : 3 + ((35 :: numT 10 n).length + 2 + ((35 :: 120 :: numT 16 n).length + 2 + 0)) = (numT 10 n).length + (numT 16 n).length + 14 - 4 := by simp; omega
    rw [ek]
    rw [show ([60, 47, 97, 62] : Tx).drop 4 = [] from rfl]
    rw [runF, if_pos rfl]
    rfl
  · rw [if_neg hc, if_neg hc]
end Go.Proofs.YtokdnhdfmgfkeaaGreatDoor.Xl
end

section
namespace Go.Proofs.YtokdnhdfmgfkeaaGreatDoor.Xl
open Go.RowKit UtfW Qx

theorem nx_app {u x : Tx} {c : UInt8} (hu : u ≠ []) (h0 : (nx u 0).2 = 0) (hc : c.toNat < 128) : (nx (u ++ c :: x) 0).2 = 0 := by
  by_cases h1 : (nx (u ++ c :: x) 0).2 = 0
  · exact h1
  · exfalso
    obtain ⟨o1, o2, o3, o4, o5⟩ := nx_own h1
    rw [own_iff o2 o3 o1, Bool.and_eq_true, decide_eq_true_eq, ← o5, List.drop_zero] at o4
    obtain ⟨e, hch⟩ := o4
    have hv := isRune_of_char hch
    generalize (nx (u ++ c :: x) 0).1 = v at *
    generalize (nx (u ++ c :: x) 0).2 = n at *
    rcases Nat.lt_or_ge u.length n with g | g
    · have hm : c ∈ (u ++ c :: x).take n := by
        rw [List.take_append, List.take_of_length_le (by omega)]
        refine List.mem_append_right _ ?_
        obtain ⟨m, hm⟩ : ∃ m, n - u.length = m + 1 := ⟨n - u.length - 1, by omega⟩
        rw [hm, List.take_succ_cons]
        exact List.mem_cons_self ..
      rw [← e] at hm
      rcases enc_bytes hv with ⟨_, h4⟩ | h4
      · have h5 := congrArg List.length e
        rw [h4, List.length_take, List.length_append, List.length_cons] at h5
        have h6 := List.length_pos_iff.2 hu
        simp at h5
        omega
      · have := h4 c hm
        omega
    · rw [List.take_append_of_le_length g] at e
      have h2 := List.take_append_drop n u
      rw [← e] at h2
      have hp := encB_pos hv
      rw [← h2, nx_E hch] at h0
      simp only at h0
      omega
theorem badW_mid {a s x : Tx} {c : UInt8} (ha : ∀ b ∈ a, b.toNat < 128 ∧ Utf.Char (b.toNat : Nat) = true) (hc : c.toNat < 128) (hx : V (c :: x)) :
    badW (a ++ (s ++ c :: x)) 0 = if 0 ≤ badW s 0 then badW s 0 + a.length else -1 := by
  obtain ⟨rs, u, h1, h2, h3⟩ := runes_split s.length s (Nat.le_refl _)
  obtain ⟨qs, hq, ea⟩ := V.all ha
  rcases h3 with rfl | ⟨hu, h0⟩
  · rw [List.append_nil] at h2
    have hs : badW s 0 = -1 := badW_V ⟨rs, h1, h2⟩
    rw [hs, if_neg (by omega)]
    exact badW_V (V.append ⟨qs, hq, ea⟩ (V.append ⟨rs, h1, h2⟩ hx))
  · have hs := badW_E (l := s) hu h0 rs 0 h1 (by rw [List.drop_zero]; exact h2)
    rw [hs, if_pos (by omega)]
    have ht := badW_E (l := a ++ (s ++ c :: x)) (u := u ++ c :: x) (by simp) (nx_app hu h0 hc) (qs ++ rs) 0 (fun r hr => (List.mem_append.1 hr).elim (hq r) (h1 r)) (by rw [List.drop_zero, E_append, ea, h2]; simp)
    rw [ht, E_append, ea]
    simp
    omega

theorem mem_lines : ∀ {s : Tx} {c : UInt8}, c ∈ s → c ≠ 13 → c ∈ Utf.lines s
  | [], c, h, _ => by cases h
  | b :: t, c, h, h13 => by
    rw [Utf.lines]
    rcases List.mem_cons.1 h with rfl | h
    · rw [if_neg h13]
      exact List.mem_cons_self ..
    · have ih := mem_lines h h13
      split
      · split
        · exact ih
        · exact List.mem_cons_of_mem _ ih
      · exact List.mem_cons_of_mem _ ih
def bl (c : UInt8) : UInt8 := if c = 9 ∨ c = 10 then 32 else c
theorem line_app {q : UInt8} (hq : q ≠ 10) (s t : Tx) : line (13 :: (s ++ q :: t)) = line (13 :: s) := by
  unfold line
  cases s with
  | nil =>
    have h1 : Lib.hasPrefix (13 :: ([] ++ q :: t)) [13, 10] = false := by
      simp only [Lib.hasPrefix, List.isPrefixOf, List.nil_append, Bool.and_eq_false_iff]
      exact .inr (.inl (by rw [beq_eq_false_iff_ne]; exact fun e => hq e.symm))
    have h2 : Lib.hasPrefix [13] [13, 10] = false := by decide
    rw [h1, h2]
  | cons b s => simp [Lib.hasPrefix, List.isPrefixOf]
theorem valF_plain {q : UInt8} (hq : q ≠ 10 ∧ q ≠ 9 ∧ q ≠ 13) : ∀ (f : Nat) {s out t : Tx}, s.length < f → q ∉ s → 60 ∉ s → 38 ∉ s → valF f q (s ++ q :: t) out = .ok (out ++ (Utf.lines s).map bl) (s.length + 1)
  | 0, s, out, t, h, _, _, _ => absurd h (by omega)
  | f + 1, [], out, t, h, _, _, _ => by
    rw [List.nil_append, valF, if_pos rfl]
    simp [Utf.lines]
  | f + 1, c :: s, out, t, h, h1, h2, h3 => by
    have e1 : c ≠ q := fun e => h1 (by rw [e]; exact List.mem_cons_self ..)
    have e2 : c ≠ 60 := fun e => h2 (by rw [e]; exact List.mem_cons_self ..)
    have e3 : c ≠ 38 := fun e => h3 (by rw [e]; exact List.mem_cons_self ..)
    have m : ∀ {x : UInt8}, x ∉ c :: s → x ∉ s := fun h hm => h (List.mem_cons_of_mem _ hm)
    rw [List.cons_append, valF, if_neg e1, if_neg e2, if_neg e3]
    by_cases h13 : c = 13
    · subst h13
      have hl := line_len (c := 13) s
      have hd : (13 :: (s ++ q :: t)).drop (line (13 :: s)) = (13 :: s).drop (line (13 :: s)) ++ q :: t := by
        rw [← List.cons_append, List.drop_append_of_le_length hl.2]
      rw [if_pos (.inr (.inr rfl)), line_app hq.1, hd, valF_plain hq f (by rw [List.length_drop]; simp at h hl ⊢; omega) (line_mem h1 _) (line_mem h2 _) (line_mem h3 _), lines_13]
      have hb : bl 10 = 32 := by decide
      simp only [Out.shift, List.append_assoc, List.singleton_append, List.map_cons, hb, List.length_drop]
      congr 1
      omega
    · by_cases hb : c = 9 ∨ c = 10
      · have hl : line (c :: (s ++ q :: t)) = 1 := by
          unfold line
          rw [if_neg]
          simp only [Lib.hasPrefix, List.isPrefixOf, Bool.and_eq_true, beq_iff_eq]
          exact fun e => h13 e.1.symm
        rw [if_pos (hb.elim .inl fun e => .inr (.inl e)), hl, List.drop_succ_cons, List.drop_zero, valF_plain hq f (by simp at h; omega) (m h1) (m h2) (m h3), Utf.lines, if_neg h13]
        have hbl : bl c = 32 := by unfold bl; rw [if_pos hb]
        simp only [Out.shift, List.append_assoc, List.singleton_append, List.map_cons, hbl, List.length_cons]
        congr 1
        omega
      · rw [if_neg (fun h => h.elim (fun e => hb (.inl e)) fun h => h.elim (fun e => hb (.inr e)) h13), valF_plain hq f (by simp at h; omega) (m h1) (m h2) (m h3), Utf.lines, if_neg h13]
        have hbl : bl c = c := by unfold bl; rw [if_neg hb]
        simp only [Out.shift, List.append_assoc, List.singleton_append, List.map_cons, hbl, List.length_cons]
        congr 1
        omega

theorem name_1 (a b : UInt8) (t : Tx) (ha : a.toNat < 128) (hca : Utf.Char (a.toNat : Nat) = true) (h1 : Begins (a.toNat : Nat) = true) (h : b.toNat < 128) (hc : Utf.Char (b.toNat : Nat) = true) (hg : GoesOn (b.toNat : Nat) = false) : name (a :: b :: t) = .ok [a] 1 := by
  have e1 := nameF_E (t.length + 2) true (v := a.toNat) hca (b :: t)
  rw [encB_byte ha] at e1
  have e2 := nameF_E (t.length + 1) false (v := b.toNat) hc t
  rw [encB_byte h, hg] at e2
  have h2 := goesOn_of_begins h1
  rw [h1, h2] at e1
  simp only [List.singleton_append] at e1 e2
  rw [e2] at e1
  have hn : nameL (a :: b :: t) = 1 := by
    unfold nameL
    simpa using e1
  unfold name
  rw [if_neg (by simp), hn]
  rfl
theorem blanks_0 {c : UInt8} {t : Tx} (h : Qx.blank c = false) : blanks (c :: t) = 0 := by
  unfold blanks
  rw [List.takeWhile_cons, if_neg (by rw [h]; decide)]
  rfl

/-- The law's document of a value. -/
def docV (q : UInt8) (s : Tx) : Tx := [60, 97, 32, 120, 61, q] ++ (s ++ q :: [47, 62])
theorem docV_bad {q : UInt8} (hq : q = 34 ∨ q = 39) (s : Tx) : badW (docV q s) 0 = if 0 ≤ badW s 0 then badW s 0 + 6 else -1 := by
  unfold docV
  rw [badW_mid (a := [60, 97, 32, 120, 61, q]) (by rcases hq with rfl | rfl <;> decide) (by rcases hq with rfl | rfl <;> decide) (V.all (by rcases hq with rfl | rfl <;> decide))]
  rfl
theorem attr_x {q : UInt8} (hq : q = 34 ∨ q = 39) {s : Tx} (h1 : q ∉ s) (h2 : 60 ∉ s) (h3 : 38 ∉ s) (t : Tx) : attr [] (120 :: 61 :: q :: (s ++ q :: t)) = .ok ([120], (Utf.lines s).map bl) (s.length + 4) := by
  have hb1 : blanks (61 :: q :: (s ++ q :: t)) = 0 := blanks_0 (by decide)
  have hb2 : blanks (q :: (s ++ q :: t)) = 0 := blanks_0 (by rcases hq with rfl | rfl <;> decide)
  have hv : value (q :: (s ++ q :: t)) = .ok ((Utf.lines s).map bl) (s.length + 2) := by
    rw [value, if_pos hq, valF_plain (by rcases hq with rfl | rfl <;> decide) _ (by simp <;> omega) h1 h2 h3]
    simp only [Out.shift, List.nil_append]
    congr 1
    omega
  unfold attr
  rw [name_1 120 61 _ (by decide) (by decide) (by decide) (by decide) (by decide) (by decide)]
  simp only [List.map_nil, List.not_mem_nil, if_false, List.drop_succ_cons, List.drop_zero, hb1, Nat.add_zero]
  rw [eat, if_pos rfl, eat]
  simp only [Out.shift, Nat.add_zero, List.drop_succ_cons, List.drop_zero, hb2, hv, Nat.reduceAdd]
  congr 1
  omega
theorem docV_ok {q : UInt8} (hq : q = 34 ∨ q = 39) {s : Tx} (hs : s.length ≤ 2000) (hb : badW s 0 < 0) (h : ∀ c ∈ Utf.lines s, c ≠ 34 ∧ c ≠ 39 ∧ c ≠ 60 ∧ c ≠ 38) :
    allF (docV q s) = (0, 0, [⟨2, 0, [97], [], [([120], (Utf.lines s).map bl)]⟩]) := by
  have hno : ∀ x : UInt8, x ≠ 13 → (∀ c ∈ Utf.lines s, c ≠ x) → x ∉ s := fun x h13 hx hm => hx x (mem_lines hm h13) rfl
  have h1 : q ∉ s := by
    rcases hq with rfl | rfl
    · exact hno 34 (by decide) fun c hc => (h c hc).1
    · exact hno 39 (by decide) fun c hc => (h c hc).2.1
  have h2 : 60 ∉ s := hno 60 (by decide) fun c hc => (h c hc).2.2.1
  have h3 : 38 ∉ s := hno 38 (by decide) fun c hc => (h c hc).2.2.2
  have hbd : badW (docV q s) 0 = -1 := by rw [docV_bad hq, if_neg (by omega)]
  have hlen : (docV q s).length = s.length + 9 := by unfold docV; simp
  have ed : docV q s = 60 :: 97 :: 32 :: 120 :: 61 :: q :: (s ++ q :: [47, 62]) := rfl
  have hdecl : decl (docV q s) = .ok () 0 := by
    unfold decl
    rw [if_neg]
    rintro ⟨hp, _⟩
    rw [ed] at hp
    simp [Lib.hasPrefix, xmlT, List.isPrefixOf] at hp
  unfold allF
  rw [if_neg (by omega), if_neg (by omega), hdecl]
  simp only [List.drop_zero]
  rw [hlen, show s.length + 9 + 1 = (s.length + 8 + 1) + 1 by omega, runF, if_neg (by rw [ed]; simp)]
  have htag : tag (docV q s) = .ok ⟨2, 0, [97], [], [([120], (Utf.lines s).map bl)]⟩ (s.length + 9) := by
    unfold tag
    rw [ed, List.drop_succ_cons, List.drop_zero, name_1 97 32 _ (by decide) (by decide) (by decide) (by decide) (by decide) (by decide)]
    simp only [Nat.reduceAdd, List.drop_succ_cons, List.drop_zero]
    have hb1 : blanks (32 :: 120 :: 61 :: q :: (s ++ q :: [47, 62])) = 1 := by
      unfold blanks
      rw [List.takeWhile_cons, if_pos (by decide), List.takeWhile_cons, if_neg (by decide)]
      rfl
    have hd1 : (32 :: 120 :: 61 :: q :: (s ++ q :: [47, 62])).drop (blanks (32 :: 120 :: 61 :: q :: (s ++ q :: [47, 62]))) = 120 :: 61 :: q :: (s ++ q :: [47, 62]) := by rw [hb1]; rfl
    have fl : (60 :: 97 :: 32 :: 120 :: 61 :: q :: (s ++ q :: [47, 62])).length + 1 = (s.length + 8) + 1 + 1 := by simp
    rw [fl, tagF_cons _ [] hd1, if_neg (by decide), if_neg (by decide), hb1, if_neg (by decide), attr_x hq h1 h2 h3]
    simp only
    have hd2 : (120 :: 61 :: q :: (s ++ q :: [47, 62])).drop (s.length + 4) = [47, 62] := by
      rw [show s.length + 4 = (s ++ [q]).length + 1 + 1 + 1 by simp, List.drop_succ_cons, List.drop_succ_cons, List.drop_succ_cons, show s ++ q :: [47, 62] = (s ++ [q]) ++ [47, 62] by simp, List.drop_left]
    have hb3 : blanks [47, 62] = 0 := blanks_0 (by decide)
    have hd3 : ([47, 62] : Tx).drop (blanks [47, 62]) = 47 :: [62] := by rw [hb3]; rfl
    rw [hd2, tagF_cons _ _ hd3, if_neg (by decide), if_pos rfl, hb3]
    rw [show eat [47, 62] [47, 62] = .ok () 2 from by decide]
    simp only [Out.shift, List.nil_append, if_true]
    congr 1
    omega
  have ht : token (docV q s) = .ok ⟨2, 0, [97], [], [([120], (Utf.lines s).map bl)]⟩ (s.length + 9) := by
    unfold token
    rw [if_neg (by rw [ed]; simp), if_neg (by rw [ed]; simp [Lib.hasPrefix, List.isPrefixOf]), if_neg (by rw [ed]; simp [Lib.hasPrefix, List.isPrefixOf]), if_neg (by rw [ed]; simp [Lib.hasPrefix, List.isPrefixOf])]
    exact htag
  rw [ht]
  simp only [List.nil_append]
  have hd : (docV q s).drop (s.length + 9) = [] := by rw [← hlen, List.drop_length]
  rw [hd, runF, if_pos rfl]
end Go.Proofs.YtokdnhdfmgfkeaaGreatDoor.Xl
end
