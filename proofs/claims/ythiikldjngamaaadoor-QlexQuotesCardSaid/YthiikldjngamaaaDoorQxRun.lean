/- All tokens of a text, and the laws over them. -/
import Derived.Test.YthiikldjngamaaaDoorQxLaw
namespace Go.Proofs.YthiikldjngamaaaDoor.Qx
open Go.RowKit UtfW

inductive Lex : Bool → List UInt8 → List (Int × List UInt8) → Prop
  | nil {op : Bool} {r : List UInt8} (h : skip r = []) : Lex op r []
  | cons {op : Bool} {r tx : List UInt8} {kd : Int} {n : Nat} {ts : List (Int × List UInt8)} (h : token op (skip r) = .tok kd tx n) (h2 : Lex (opdT kd tx) ((skip r).drop n) ts) : Lex op r ((kd, tx) :: ts)

theorem Lex.skip_ {op : Bool} {r r' : List UInt8} {ts : List (Int × List UInt8)} (h : Lex op r ts) (e : skip r = skip r') : Lex op r' ts := by
  cases h with
  | nil h => exact .nil (by rw [← e]; exact h)
  | cons h h2 => exact .cons (by rw [← e]; exact h) (by rw [← e]; exact h2)

def rends : List (Int × List UInt8) → List UInt8
  | [] => []
  | t :: ts => rend t.1 t.2 ++ 32 :: rends ts

/-- Tokens written out, each with a blank behind it, are the same tokens. -/
theorem Lex.again {op : Bool} {r : List UInt8} {ts : List (Int × List UInt8)} (h : Lex op r ts) : V r → Lex op (rends ts) ts ∧ V (rends ts) ∧ (rends ts).length ≤ 2 * r.length ∧ fol (skip (rends ts)) = fol (skip r) := by
  induction h with
  | nil h =>
    intro _
    refine ⟨.nil rfl, V.nil, by simp [rends], ?_⟩
    rw [h]
    rfl
  | @cons op r tx kd n ts h h2 ih =>
    intro hV
    have L := like_of (skip_V hV) (skip_skip r) h
    obtain ⟨i1, i2, i3, i4⟩ := ih L.vr
    obtain ⟨c, u, hc, hb⟩ := L.hd
    have hsk : skip (rend kd tx ++ 32 :: rends ts) = rend kd tx ++ 32 :: rends ts := by
      rw [hc, List.cons_append]
      exact skip_of hb _
    have hn := token_len h
    have hsl := skip_len r
    refine ⟨.cons (n := (rend kd tx).length) ?_ ?_, V.append L.vt (V.append (V.one (c := 32) (by decide) (by decide)) i2), ?_, ?_⟩
    · show token op (skip (rend kd tx ++ 32 :: rends ts)) = _
      rw [hsk]
      exact L.ag (rends ts) i4
    · show Lex _ ((skip (rend kd tx ++ 32 :: rends ts)).drop _) ts
      rw [hsk, List.drop_append_of_le_length (Nat.le_refl _), List.drop_length, List.nil_append]
      exact i1.skip_ (skip_blank _).symm
    · have := L.le
      rw [List.length_drop] at i3
      show (rend kd tx ++ 32 :: rends ts).length ≤ _
      rw [List.length_append, List.length_cons]
      omega
    · show fol (skip (rend kd tx ++ 32 :: rends ts)) = _
      rw [hsk]
      exact L.fl _

def kt (t : Tok) : Int × List UInt8 := (t.1, t.2.2)

theorem opd_snoc (ts : List Tok) (t : Tok) : opd (ts ++ [t]) = opdT t.1 t.2.2 := by
  unfold opd
  rw [List.getLast?_append]
  rfl

theorem run_of_lex {op : Bool} {r : List UInt8} {vs : List (Int × List UInt8)} (h : Lex op r vs) : ∀ (f : Nat) (S : List UInt8) (k : Nat) (ts : List Tok), skip r = S.drop k → opd ts = op → S.length < k + f → k ≤ S.length → ∃ us, runF f S k ts = (0, 0, ts ++ us) ∧ us.map kt = vs := by
  induction h with
  | nil h =>
    intro f S k ts e _ hf hk
    rw [h] at e
    have : S.length ≤ k := List.drop_eq_nil_iff.1 e.symm
    refine ⟨[], ?_, rfl⟩
    rw [List.append_nil]
    cases f with
    | zero => rfl
    | succ f => rw [runF, if_pos this]
  | @cons op r tx kd n ts' h h2 ih =>
    intro f S k ts e ho hf hk
    have hn := token_len h
    rw [e, List.length_drop] at hn
    obtain ⟨f, rfl⟩ : ∃ g, f = g + 1 := ⟨f - 1, by omega⟩
    have hge := sk_ge S (k + n)
    obtain ⟨us, h3, h4⟩ := ih f S (sk S (k + n)) (ts ++ [(kd, (k : Int), tx)]) (by rw [sk_drop, e, List.drop_drop]) (opd_snoc _ _) (by omega) (sk_le S _ (by omega))
    refine ⟨(kd, (k : Int), tx) :: us, ?_, by rw [List.map_cons, h4]; rfl⟩
    rw [e] at h
    rw [runF, if_neg (by omega), ho, h]
    simp only
    rw [h3]
    simp

/-- Places rise. -/
def Up : Int → Int → List Tok → Prop
  | _, _, [] => True
  | lo, hi, t :: ts => lo ≤ t.2.1 ∧ t.2.1 < hi ∧ Up (t.2.1 + 1) hi ts

theorem Up.mono {lo lo' hi : Int} {ts : List Tok} (h : Up lo hi ts) (hl : lo' ≤ lo) : Up lo' hi ts := by
  cases ts with
  | nil => trivial
  | cons t ts => exact ⟨by have := h.1; omega, h.2⟩

theorem Up.at_ {hi : Int} : ∀ {ts : List Tok} {lo : Int} {i : Nat} {t : Tok}, Up lo hi ts → ts[i]? = some t → lo ≤ t.2.1 ∧ t.2.1 < hi ∧ ∀ u, ts[i + 1]? = some u → t.2.1 < u.2.1
  | [], _, _, _, _, h => by simp at h
  | a :: ts, lo, 0, t, hu, h => by
    simp at h
    subst h
    refine ⟨hu.1, hu.2.1, fun u h2 => ?_⟩
    cases ts with
    | nil => simp at h2
    | cons b ts =>
      simp at h2
      subst h2
      have := hu.2.2.1
      omega
  | a :: ts, lo, i + 1, t, hu, h => by
    have h' : ts[i]? = some t := by simpa using h
    obtain ⟨h1, h2, h3⟩ := Up.at_ hu.2.2 h'
    refine ⟨by have := hu.1; omega, h2, fun u h4 => h3 u ?_⟩
    simpa using h4

theorem lex_of_run : ∀ (f : Nat) (S : List UInt8) (k : Nat) (ts : List Tok), skip (S.drop k) = S.drop k → S.length < k + f → k ≤ S.length → (runF f S k ts).1 = 0 → ∃ us, runF f S k ts = (0, 0, ts ++ us) ∧ Lex (opd ts) (S.drop k) (us.map kt) ∧ Up (k : Nat) S.length us
  | 0, S, k, ts, _, h1, h2, _ => by omega
  | f + 1, S, k, ts, hs, h1, h2, h => by
    rw [runF] at h ⊢
    split at h
    · rename_i hle
      rw [if_pos hle]
      exact ⟨[], by simp, .nil (by rw [hs]; exact List.drop_eq_nil_of_le hle), trivial⟩
    · rename_i hle
      rw [if_neg hle]
      cases ht : token (opd ts) (S.drop k) with
      | bad c =>
        rw [ht] at h
        have := token_bad ht
        simp only at h
        omega
      | tok kd tx n =>
        rw [ht] at h
        simp only at h ⊢
        have hn := token_len ht
        rw [List.length_drop] at hn
        have hge := sk_ge S (k + n)
        obtain ⟨us, h3, h4, h5⟩ := lex_of_run f S (sk S (k + n)) _ (by rw [sk_drop, skip_skip]) (by omega) (sk_le S _ (by omega)) h
        refine ⟨(kd, (k : Int), tx) :: us, by rw [h3]; simp, ?_, Int.le_refl _, by simp only; omega, h5.mono (by simp only; omega)⟩
        rw [List.map_cons]
        refine .cons (n := n) (by rw [hs]; exact ht) ?_
        rw [hs]
        rw [opd_snoc] at h4
        exact h4.skip_ (by rw [sk_drop, skip_skip, List.drop_drop])

theorem V_of_bad {S : List UInt8} (h : badW S 0 < 0) : V S := by
  obtain ⟨rs, u, h1, h2, h3⟩ := runes_split S.length S (Nat.le_refl _)
  rcases h3 with rfl | ⟨hu, h0⟩
  · exact ⟨rs, h1, by rw [h2, List.append_nil]⟩
  · have := badW_E (l := S) hu h0 rs 0 h1 (by rw [List.drop_zero]; exact h2)
    omega

theorem all_lex {S : List UInt8} (h : (allF S).1 = 0) : ∃ us, allF S = (0, 0, us) ∧ V S ∧ S.length ≤ 1000 ∧ Lex false S (us.map kt) ∧ Up 0 S.length us := by
  unfold allF at h ⊢
  split at h
  · exact absurd h (by decide)
  · split at h
    · exact absurd h (by show ¬ (1 : Int) = 0; decide)
    · rename_i h1 h2
      rw [if_neg h1, if_neg h2]
      have h0 : skip (S.drop (sk S 0)) = S.drop (sk S 0) := by rw [sk_drop, skip_skip]
      have hge := sk_ge S 0
      obtain ⟨us, h3, h4, h5⟩ := lex_of_run (S.length + 1) S (sk S 0) [] h0 (by omega) (sk_le S 0 (by omega)) h
      exact ⟨us, by rw [h3]; rfl, V_of_bad (by omega), by omega, h4.skip_ (by rw [sk_drop, skip_skip]; rfl), h5.mono (by omega)⟩

theorem lex_all {S : List UInt8} {vs : List (Int × List UInt8)} (hV : V S) (hl : S.length ≤ 1000) (h : Lex false S vs) : ∃ us, allF S = (0, 0, us) ∧ us.map kt = vs := by
  have hge := sk_ge S 0
  obtain ⟨us, h3, h4⟩ := run_of_lex h (S.length + 1) S (sk S 0) [] (by rw [sk_drop]; rfl) rfl (by omega) (sk_le S 0 (by omega))
  refine ⟨us, ?_, h4⟩
  unfold allF
  rw [if_neg (by omega), badW_V hV, if_neg (by decide), h3]
  rfl

/-- QlexAgain. -/
theorem all_again {S : List UInt8} (h : (allF S).1 = 0) (hl : S.length ≤ 300) : ∃ us vs, allF S = (0, 0, us) ∧ Up 0 S.length us ∧ allF (rends (us.map kt)) = (0, 0, vs) ∧ vs.map kt = us.map kt ∧ (rends (us.map kt)).length ≤ 600 := by
  obtain ⟨us, h1, h2, h3, h4, h5⟩ := all_lex h
  obtain ⟨i1, i2, i3, i4⟩ := h4.again h2
  obtain ⟨vs, j1, j2⟩ := lex_all i2 (by omega) i1
  exact ⟨us, vs, h1, h5, j1, j2, by omega⟩

/-! ### QlexWords -/

def wordsL : List (List UInt8) := [[97, 110, 100], [111, 114], [100, 105, 118], [109, 111, 100], [42]]
def rep (w : List UInt8) : Nat → List UInt8
  | 0 => []
  | k + 1 => w ++ 32 :: rep w k
def alt (w : List UInt8) : Bool → Nat → List (Int × List UInt8)
  | _, 0 => []
  | op, k + 1 => (if op then 5 else 1, w) :: alt w (!op) k

theorem words_lits : ∀ w ∈ wordsL, ∃ c u, w = c :: u ∧ blank c = false ∧ c ≠ 58 ∧ c ≠ 40 := by
  intro w hw
  simp only [wordsL, List.mem_cons, List.not_mem_nil, or_false] at hw
  rcases hw with rfl | rfl | rfl | rfl | rfl <;> exact ⟨_, _, rfl, by decide, by decide, by decide⟩

theorem token_word (w : List UInt8) (qs : List Nat) (hE : E qs = w) (hc : ∀ r ∈ qs, Utf.Char (r : Nat) = true) (hg : ∀ q ∈ qs, GoesOn (q : Nat) = true) (hb : ∀ q, qs.head? = some q → Begins (q : Nat) = true) (hm : w ∈ ops) (x : List UInt8) (hx : fol (skip x) = 0) (op : Bool)
    (ht : token op (w ++ 32 :: x) = rest_ op (w ++ 32 :: x)) : token op (w ++ 32 :: x) = .tok (if op then 5 else 1) w w.length := by
  have hge := E_ge hc
  have hn : nameL (w ++ 32 :: x) = w.length := by
    rw [← hE]
    exact name_again qs _ true x (by rw [List.length_append]; omega) hc hg (fun _ => hb)
  have hpos : 0 < w.length := by
    have : ∀ w ∈ ops, 0 < w.length := by decide
    exact this w hm
  rw [ht]
  unfold rest_
  rw [hn, if_pos hpos]
  unfold word
  rw [List.take_append_of_le_length (Nat.le_refl _), List.take_length, List.drop_append_of_le_length (Nat.le_refl _), List.drop_length, List.nil_append, skip_blank, hx, if_pos hm]
  cases op <;> rfl

theorem token_rest {c : UInt8} (t : List UInt8) (op : Bool) (h1 : ¬ (c = 34 ∨ c = 39)) (h2 : c ≠ 36) (h3 : c ≠ 42) (h4 : ¬ (c = 46 ∨ dig c = true)) : token op (c :: t) = rest_ op (c :: t) := by
  rw [token_cons]
  unfold tokenC
  rw [if_neg h1, if_neg h2, if_neg h3, if_neg h4]

theorem token_words : ∀ w ∈ wordsL, ∀ (op : Bool) (x : List UInt8), fol (skip x) = 0 → token op (w ++ 32 :: x) = .tok (if op then 5 else 1) w w.length := by
  intro w hw op x hx
  simp only [wordsL, List.mem_cons, List.not_mem_nil, or_false] at hw
  rcases hw with rfl | rfl | rfl | rfl | rfl
  · exact token_word _ [97, 110, 100] (by decide) (by decide) (by decide) (by decide) (by decide) x hx op (token_rest _ op (by decide) (by decide) (by decide) (by decide))
  · exact token_word _ [111, 114] (by decide) (by decide) (by decide) (by decide) (by decide) x hx op (token_rest _ op (by decide) (by decide) (by decide) (by decide))
  · exact token_word _ [100, 105, 118] (by decide) (by decide) (by decide) (by decide) (by decide) x hx op (token_rest _ op (by decide) (by decide) (by decide) (by decide))
  · exact token_word _ [109, 111, 100] (by decide) (by decide) (by decide) (by decide) (by decide) x hx op (token_rest _ op (by decide) (by decide) (by decide) (by decide))
  · rfl

theorem lex_rep {w : List UInt8} (hw : w ∈ wordsL) : ∀ (k : Nat) (op : Bool), Lex op (rep w k) (alt w op k) ∧ fol (skip (rep w k)) = 0
  | 0, op => ⟨.nil rfl, rfl⟩
  | k + 1, op => by
    obtain ⟨i1, i2⟩ := lex_rep hw k (!op)
    obtain ⟨c, u, e, hb, h1, h2⟩ := words_lits w hw
    have hs : skip (rep w (k + 1)) = w ++ 32 :: rep w k := by
      show skip (w ++ 32 :: rep w k) = _
      rw [e, List.cons_append]
      exact skip_of hb _
    refine ⟨.cons (n := w.length) (by rw [hs]; exact token_words w hw op _ i2) ?_, ?_⟩
    · rw [hs, List.drop_append_of_le_length (Nat.le_refl _), List.drop_length, List.nil_append]
      have : opdT (if op then 5 else 1) w = !op := by cases op <;> rfl
      rw [this]
      exact i1.skip_ (skip_blank _).symm
    · rw [hs, e, List.cons_append]
      exact fol_other h1 h2 _

theorem rep_V {w : List UInt8} (hw : w ∈ wordsL) (k : Nat) : V (rep w k) ∧ (rep w k).length ≤ k * 4 := by
  have hc : ∀ w ∈ wordsL, (∀ c ∈ w, c.toNat < 128 ∧ Utf.Char (c.toNat : Nat) = true) ∧ w.length ≤ 3 := by decide
  obtain ⟨h1, h2⟩ := hc w hw
  induction k with
  | zero => exact ⟨V.nil, by simp [rep]⟩
  | succ k ih =>
    refine ⟨V.append (V.all h1) (V.append (V.one (c := 32) (by decide) (by decide)) ih.1), ?_⟩
    show (w ++ 32 :: rep w k).length ≤ _
    rw [List.length_append, List.length_cons]
    omega

theorem rep_snoc (w : List UInt8) : ∀ k, rep w k ++ (w ++ [32]) = rep w (k + 1)
  | 0 => by simp [rep]
  | k + 1 => by
    show (w ++ 32 :: rep w k) ++ (w ++ [32]) = w ++ 32 :: rep w (k + 1)
    rw [← rep_snoc w k]
    simp

theorem alt_at {w : List UInt8} : ∀ (k : Nat) (op : Bool) (i : Nat), i < k → (alt w op k)[i]? = some (if (op ^^ decide (i % 2 = 1)) then 5 else 1, w)
  | 0, _, i, h => by omega
  | k + 1, op, 0, _ => by cases op <;> rfl
  | k + 1, op, i + 1, h => by
    show (alt w (!op) k)[i]? = _
    rw [alt_at k (!op) i (by omega)]
    rcases (show i % 2 = 0 ∨ i % 2 = 1 by omega) with h1 | h1
    · have h2 : (i + 1) % 2 = 1 := by omega
      rw [h1, h2]
      cases op <;> rfl
    · have h2 : (i + 1) % 2 = 0 := by omega
      rw [h1, h2]
      cases op <;> rfl
theorem alt_len (w : List UInt8) : ∀ (k : Nat) (op : Bool), (alt w op k).length = k
  | 0, _ => rfl
  | k + 1, op => by show (alt w (!op) k).length + 1 = _; rw [alt_len w k]

theorem all_words {w : List UInt8} (hw : w ∈ wordsL) {k : Nat} (hk : k ≤ 100) : ∃ us, allF (rep w k) = (0, 0, us) ∧ us.map kt = alt w false k := by
  obtain ⟨h1, h2⟩ := rep_V hw k
  exact lex_all h1 (by omega) (lex_rep hw k false).1

/-! ### QlexQuotes -/

theorem run_one {S : List UInt8} {kd : Int} {tx : List UInt8} (h : token false S = .tok kd tx S.length) (hs : skip S = S) : runF (S.length + 1) S (sk S 0) [] = (0, 0, [(kd, 0, tx)]) := by
  have hn := token_len h
  have h0 : sk S 0 = 0 := by
    have h1 := skip_len S
    rw [hs] at h1
    unfold sk
    rw [List.drop_zero]
    omega
  have h2 := sk_ge S (0 + S.length)
  rw [h0, runF, if_neg (by omega), List.drop_zero, show opd [] = false from rfl, h]
  simp only
  cases hl : S.length with
  | zero => omega
  | succ m =>
    rw [hl] at h2
    rw [runF, if_pos (by omega)]
    rfl

theorem all_quote {s : List UInt8} {q : UInt8} (hq : q = 34 ∨ q = 39) (hl : s.length ≤ 500) :
    allF (q :: (s ++ [q])) = if 0 ≤ badW s 0 then (1, badW s 0 + 1, []) else if q ∈ s then allF (q :: (s ++ [q])) else (0, 0, [(7, 0, s)]) := by
  have hq1 : q.toNat < 128 := by rcases hq with rfl | rfl <;> decide
  have hq2 : Utf.Char (q.toNat : Nat) = true := by rcases hq with rfl | rfl <;> decide
  have hqb : blank q = false := by rcases hq with rfl | rfl <;> decide
  have hlen : (q :: (s ++ [q])).length = s.length + 2 := by simp
  have hb := badW_quote (s := s) hq1 hq2
  by_cases h0 : 0 ≤ badW s 0
  · rw [if_pos h0] at hb ⊢
    unfold allF
    rw [hb, if_neg (by rw [hlen]; omega), if_pos (by omega)]
  · rw [if_neg h0] at hb ⊢
    by_cases hm : q ∈ s
    · rw [if_pos hm]
    · rw [if_neg hm]
      unfold allF
      rw [hb, if_neg (by rw [hlen]; omega), if_neg (by omega)]
      refine run_one ?_ (skip_of hqb _)
      rw [token_cons]
      unfold tokenC
      rw [if_pos hq]
      unfold quoted
      have hi := index_of hm []
      rw [hi, if_neg (by omega), Int.toNat_natCast, List.take_append_of_le_length (Nat.le_refl _), List.take_length, hlen]

theorem number_pt {a b : List UInt8} (ha : ∀ c ∈ a, dig c = true) (hb : ∀ c ∈ b, dig c = true) (hab : a.length + b.length = 3) : number (a ++ 46 :: b) = some 4 := by
  have e1 : digits (a ++ 46 :: b) = a.length := digits_app ha fun c h => (by simp at h; subst h; decide)
  have e2 : (a ++ 46 :: b).drop (a.length + 1) = b := by
    rw [← List.drop_drop, List.drop_append_of_le_length (Nat.le_refl _), List.drop_length]
    rfl
  have e3 : digits b = b.length := by
    have := digits_app hb (y := []) fun c h => (by simp at h)
    rwa [List.append_nil] at this
  have e4 : (a ++ 46 :: b)[a.length]? = some 46 := by simp
  unfold number
  rw [e1, e2, e3, e4, if_pos rfl, if_neg (by omega)]
  congr 1
  omega

theorem all_number {a b : List UInt8} (ha : ∀ c ∈ a, dig c = true) (hb : ∀ c ∈ b, dig c = true) (hab : a.length + b.length = 3) : allF (a ++ 46 :: b) = (0, 0, [(8, 0, a ++ 46 :: b)]) := by
  have hn := number_pt ha hb hab
  have hlen : (a ++ 46 :: b).length = 4 := by rw [List.length_append, List.length_cons]; omega
  have hall : ∀ c ∈ a ++ 46 :: b, c = 46 ∨ dig c = true := fun c hc => by
    rcases List.mem_append.1 hc with hc | hc
    · exact .inr (ha c hc)
    · rcases List.mem_cons.1 hc with rfl | hc
      · exact .inl rfl
      · exact .inr (hb c hc)
  have hV := badW_V (V.all fun c hc => char_dig (hall c hc))
  generalize a ++ 46 :: b = T at *
  unfold allF
  rw [hV, if_neg (by omega), if_neg (by decide)]
  cases T with
  | nil => simp at hlen
  | cons c t =>
    have hc := hall c (List.mem_cons_self ..)
    have hcr : c ≠ 34 ∧ c ≠ 39 ∧ c ≠ 36 ∧ c ≠ 42 ∧ blank c = false := by
      rcases hc with rfl | hc
      · decide
      · have hr := dig_range hc
        refine ⟨?_, ?_, ?_, ?_, ?_⟩
        · rintro rfl; exact absurd hr.1 (by decide)
        · rintro rfl; exact absurd hr.1 (by decide)
        · rintro rfl; exact absurd hr.1 (by decide)
        · rintro rfl; exact absurd hr.1 (by decide)
        · unfold blank Blank
          rw [decide_eq_false_iff_not]
          omega
    refine run_one ?_ (skip_of hcr.2.2.2.2 _)
    rw [token_cons]
    unfold tokenC
    rw [if_neg (fun h => h.elim hcr.1 hcr.2.1), if_neg hcr.2.2.1, if_neg hcr.2.2.2.1, if_pos hc, hn, hlen]
    simp only
    rw [List.take_of_length_le (by omega)]

/-! ### What the document fixes -/
theorem all_a : allF [97, 32, 42, 32, 42] = (0, 0, [(1, 0, [97]), (5, 2, [42]), (1, 4, [42])]) := by
  have hV : badW [97, 32, 42, 32, 42] 0 = -1 := badW_V (V.all (by decide))
  unfold allF
  rw [hV]
  decide
theorem all_b : allF [97, 32, 98] = (61, 2, [(1, 0, [97])]) := by
  have hV : badW [97, 32, 98] 0 = -1 := badW_V (V.all (by decide))
  unfold allF
  rw [hV]
  decide
theorem all_c : allF [39, 120] = (60, 0, []) := by
  have hV : badW [39, 120] 0 = -1 := badW_V (V.all (by decide))
  unfold allF
  rw [hV]
  decide
end Go.Proofs.YthiikldjngamaaaDoor.Qx
