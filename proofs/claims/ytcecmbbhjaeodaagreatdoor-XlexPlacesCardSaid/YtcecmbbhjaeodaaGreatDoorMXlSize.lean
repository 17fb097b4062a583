/- How long what the tokens hold is. -/
import Derived.Test.YtcecmbbhjaeodaaGreatDoorMXlValues
import Derived.Test.YtcecmbbhjaeodaaGreatDoorMXlUpto
namespace Go.Proofs.YtcecmbbhjaeodaaGreatDoor.Xl
open Go.RowKit UtfW

theorem valF_out : ∀ {f : Nat} {q : UInt8} {r out v : Tx} {n : Nat}, valF f q r out = .ok v n → v.length ≤ out.length + 4 * n
  | 0, q, r, out, v, n, h => by cases h
  | f + 1, q, [], out, v, n, h => by cases h
  | f + 1, q, c :: t, out, v, n, h => by
    rw [valF] at h
    split at h
    · injection h with h1 h2; subst h1; omega
    · split at h
      · cases h
      · split at h
        · cases hr : refR t with
          | bad e o => rw [hr] at h; cases h
          | ok u m =>
            rw [hr] at h
            obtain ⟨p, hp, rfl⟩ := shift_ok h
            have g1 := (refR_len hr).1
            have g2 := valF_out hp
            have g3 := refR_v hr
            rw [List.length_append] at g2
            omega
        · split at h
          · obtain ⟨p, hp, rfl⟩ := shift_ok h
            have g1 := (line_len (c := c) t).1
            have g2 := valF_out hp
            simp at g2
            omega
          · obtain ⟨p, hp, rfl⟩ := shift_ok h
            have g2 := valF_out hp
            simp at g2
            omega
theorem value_out {r v : Tx} {n : Nat} (h : value r = .ok v n) : v.length ≤ 4 * n := by
  cases r with
  | nil => cases h
  | cons q t =>
    rw [value] at h
    split at h
    · obtain ⟨p, hp, rfl⟩ := shift_ok h
      have := valF_out hp
      simp at this
      omega
    · cases h
theorem textF_out : ∀ {f : Nat} {r out v : Tx} {n : Nat}, textF f r out = .ok v n → v.length ≤ out.length + 4 * n
  | 0, r, out, v, n, h => by cases h
  | f + 1, [], out, v, n, h => by injection h with h1 h2; subst h1; omega
  | f + 1, c :: t, out, v, n, h => by
    rw [textF] at h
    split at h
    · injection h with h1 h2; subst h1; omega
    · split at h
      · cases hr : refR t with
        | bad e o => rw [hr] at h; cases h
        | ok u m =>
          rw [hr] at h
          obtain ⟨p, hp, rfl⟩ := shift_ok h
          have g1 := (refR_len hr).1
          have g2 := textF_out hp
          have g3 := refR_v hr
          rw [List.length_append] at g2
          omega
      · split at h
        · obtain ⟨p, hp, rfl⟩ := shift_ok h
          have g1 := (line_len (c := c) t).1
          have g2 := textF_out hp
          simp at g2
          omega
        · split at h
          · cases h
          · obtain ⟨p, hp, rfl⟩ := shift_ok h
            have g2 := textF_out hp
            simp at g2
            omega
def AtSz (M : Nat) (a : At) : Prop := a.1.length ≤ M ∧ a.2.length ≤ M
theorem attr_out {there : List At} {r : Tx} {a : At} {n M : Nat} (h : attr there r = .ok a n) (hM : 4 * r.length ≤ M) : AtSz M a := by
  have hl := attr_len h
  unfold attr at h
  cases hn : name r with
  | bad c o => rw [hn] at h; cases h
  | ok nm n1 =>
    rw [hn] at h
    simp only at h
    obtain ⟨g1, g2, g3, _⟩ := name_len hn
    split at h
    · cases h
    · split at h
      · cases h
      · rename_i u m he
        split at h
        · cases h
        · rename_i v n2 hv
          injection h with h1 h2
          have g5 := value_out hv
          subst h1
          have g6 : nm.length ≤ r.length := by rw [g3, List.length_take]; omega
          exact ⟨by show nm.length ≤ M; omega, by show v.length ≤ M; omega⟩
theorem tagF_out {M : Nat} : ∀ {f : Nat} {r : Tx} {ats : List At} {v : Bool × List At} {n : Nat}, tagF f r ats = .ok v n → 4 * r.length ≤ M → (∀ a ∈ ats, AtSz M a) → ∀ a ∈ v.2, AtSz M a
  | 0, r, ats, v, n, h, hM, ho => by cases h
  | f + 1, r, ats, v, n, h, hM, ho => by
    have hb := blanks_le r
    cases hd : r.drop (blanks r) with
    | nil => rw [tagF_nil f ats hd] at h; cases h
    | cons c t =>
      have hl : (c :: t).length = r.length - blanks r := by rw [← hd, List.length_drop]
      rw [tagF_cons f ats hd] at h
      by_cases h1 : c = 62
      · rw [if_pos h1] at h
        injection h with h1 h2
        subst h1
        exact ho
      · rw [if_neg h1] at h
        by_cases h2 : c = 47
        · rw [if_pos h2] at h
          cases he : eat [47, 62] (c :: t) with
          | bad e o => rw [he] at h; cases h
          | ok u m =>
            rw [he] at h
            injection h with h1 h2
            subst h1
            exact ho
        · rw [if_neg h2] at h
          by_cases h3 : blanks r = 0
          · rw [if_pos h3] at h; cases h
          · rw [if_neg h3] at h
            cases ha : attr ats (c :: t) with
            | bad e o => rw [ha] at h; cases h
            | ok a m =>
              rw [ha] at h
              obtain ⟨p, hp, rfl⟩ := shift_ok h
              refine tagF_out hp (by rw [List.length_drop]; omega) fun x hx => ?_
              rcases List.mem_append.1 hx with hx | hx
              · exact ho x hx
              · rw [List.mem_singleton.1 hx]
                exact attr_out ha (by omega)
structure TokSz (M : Nat) (t : Tok) : Prop where
  name : t.name.length ≤ M
  text : t.text.length ≤ M
  attrs : ∀ a ∈ t.attrs, AtSz M a
theorem name_out {r x : Tx} {n : Nat} (h : name r = .ok x n) : x.length ≤ r.length := by
  obtain ⟨_, _, g3, _⟩ := name_len h
  rw [g3, List.length_take]
  omega
theorem upto_out {t r x : Tx} {n : Nat} (h : upto t r = .ok x n) : (Utf.lines x).length ≤ r.length := by
  obtain ⟨g1, g2, _⟩ := upto_len h
  have := Utf.lines_len x
  omega
section
variable {r : Tx} {t : Tok} {n M : Nat}
theorem tag_out (h : tag r = .ok t n) (hM : 4 * r.length ≤ M) : TokSz M t := by
  unfold tag at h
  split at h
  · cases h
  · rename_i nm m hn
    have g := name_out hn
    rw [List.length_drop] at g
    split at h
    · cases h
    · rename_i e ats p ht
      injection h with h1 h2
      subst h1
      exact ⟨by simp only; omega, by simp, tagF_out ht (by rw [List.length_drop]; omega) (fun a ha => by cases ha)⟩
theorem instr_out (h : instr r = .ok t n) (hM : 4 * r.length ≤ M) : TokSz M t := by
  unfold instr at h
  split at h
  · cases h
  · rename_i nm m hn
    have g := name_out hn
    rw [List.length_drop] at g
    split at h
    · cases h
    · split at h
      · split at h
        · cases h
        · injection h with h1 h2
          subst h1
          exact ⟨by simp only; omega, by simp, fun a ha => by cases ha⟩
      · split at h
        · cases h
        · rename_i x p hu
          injection h with h1 h2
          subst h1
          have g2 := upto_out hu
          rw [List.length_drop] at g2
          exact ⟨by simp only; omega, by simp only; omega, fun a ha => by cases ha⟩
theorem comment_out (h : comment r = .ok t n) (hM : 4 * r.length ≤ M) : TokSz M t := by
  unfold comment at h
  split at h
  · cases h
  · rename_i x m hu
    have g2 := upto_out hu
    rw [List.length_drop] at g2
    split at h
    · cases h
    · split at h
      · injection h with h1 h2
        subst h1
        exact ⟨by simp, by simp only; omega, fun a ha => by cases ha⟩
      · cases h
theorem cdata_out (h : cdata r = .ok t n) (hM : 4 * r.length ≤ M) : TokSz M t := by
  unfold cdata at h
  split at h
  · cases h
  · rename_i x m hu
    have g2 := upto_out hu
    rw [List.length_drop] at g2
    injection h with h1 h2
    subst h1
    exact ⟨by simp, by simp only; omega, fun a ha => by cases ha⟩
theorem endT_out (h : endT r = .ok t n) (hM : 4 * r.length ≤ M) : TokSz M t := by
  unfold endT at h
  split at h
  · cases h
  · rename_i nm m hn
    have g := name_out hn
    rw [List.length_drop] at g
    split at h
    · cases h
    · injection h with h1 h2
      subst h1
      exact ⟨by simp only; omega, by simp, fun a ha => by cases ha⟩
theorem token_out (h : token r = .ok t n) (hM : 4 * r.length ≤ M) : TokSz M t := by
  unfold token at h
  split at h
  · unfold chars at h
    split at h
    · cases h
    · rename_i x m ht
      injection h with h1 h2
      subst h1
      have g1 := textF_len ht
      have g2 := textF_out ht
      simp at g2
      exact ⟨by simp, by simp only; omega, fun a ha => by cases ha⟩
  · split at h
    · unfold mark at h
      split at h
      · exact comment_out h hM
      · split at h
        · exact cdata_out h hM
        · split at h <;> cases h
    · split at h
      · exact instr_out h hM
      · split at h
        · exact endT_out h hM
        · exact tag_out h hM
end
theorem runF_out {M : Nat} : ∀ (f : Nat) {r : Tx} {k : Nat} {ts us : List Tok} {c : Int} {p : Nat}, runF f r k ts = (c, p, us) → 4 * r.length ≤ M → (∀ t ∈ ts, TokSz M t) → ∀ t ∈ us, TokSz M t
  | 0, r, k, ts, us, c, p, h, hM, ho => by
    injection h with _ h
    injection h with _ h
    subst h
    exact ho
  | f + 1, r, k, ts, us, c, p, h, hM, ho => by
    rw [runF] at h
    split at h
    · injection h with _ h
      injection h with _ h
      subst h
      exact ho
    · cases ht : token r with
      | bad c o =>
        rw [ht] at h
        injection h with _ h
        injection h with _ h
        subst h
        exact fun t h => by cases h
      | ok t n =>
        rw [ht] at h
        refine runF_out f h (by rw [List.length_drop]; omega) fun x hx => ?_
        rcases List.mem_append.1 hx with hx | hx
        · exact ho x hx
        · rw [List.mem_singleton.1 hx]
          have g := token_out ht hM
          exact ⟨g.name, g.text, g.attrs⟩
theorem allF_out {S : Tx} {ts : List Tok} {c : Int} {p : Nat} (h : allF S = (c, p, ts)) : ∀ t ∈ ts, TokSz (4 * S.length) t := by
  have none_ : ∀ {c : Int} {p : Nat} {c' : Int} {p' : Nat}, (c', p', ([] : List Tok)) = (c, p, ts) → ∀ t ∈ ts, TokSz (4 * S.length) t := fun h => by
    injection h with _ h
    injection h with _ h
    subst h
    exact fun t h => by cases h
  unfold allF at h
  split at h
  · exact none_ h
  · split at h
    · exact none_ h
    · split at h
      · exact none_ h
      · exact runF_out _ h (by rw [List.length_drop]; omega) (fun t h => by cases h)
end Go.Proofs.YtcecmbbhjaeodaaGreatDoor.Xl
