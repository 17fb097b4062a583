/- The pieces that strings.Lines tells of a text, read as rules one by one. No program stands here. -/
import Derived.Test.YtjofkodncplhaaaGreatDoorMKyLines
import Derived.Lib.SplitLaws
import Derived.Lib.IndexMore
import Derived.Lib.SlTrimSet
import Derived.Lib.Join
section
namespace Go.Proofs.YtjofkodncplhaaaGreatDoor.Ky

theorem idx_none {c : UInt8} {s : Tx} (h : c ∉ s) : Lib.index s [c] = -1 := by
  induction s with
  | nil => rfl
  | cons b s ih =>
    rw [List.mem_cons, not_or] at h
    unfold Lib.index
    rw [if_neg (by simp [List.isPrefixOf, h.1]), ih h.2]
    rfl
theorem idx_some {c : UInt8} {x : Tx} (h : c ∉ x) (r : Tx) : Lib.index (x ++ c :: r) [c] = (x.length : Nat) := by
  induction x with
  | nil =>
    show Lib.index (c :: r) [c] = 0
    unfold Lib.index
    rw [if_pos (by simp [List.isPrefixOf])]
  | cons b x ih =>
    rw [List.mem_cons, not_or] at h
    rw [List.cons_append]
    unfold Lib.index
    rw [if_neg (by simp [List.isPrefixOf, h.1]), ih h.2, if_neg (by rw [beq_iff_eq]; omega)]
    simp
/-- A text has a byte, or none; where the first one stands. -/
theorem byte_ways (c : UInt8) (s : Tx) : c ∉ s ∨ ∃ x r, s = x ++ c :: r ∧ c ∉ x := by
  induction s with
  | nil => exact .inl (by simp)
  | cons b s ih =>
    by_cases hb : b = c
    · exact .inr ⟨[], s, by rw [hb]; rfl, by simp⟩
    · rcases ih with h | ⟨x, r, rfl, h⟩
      · exact .inl (by rw [List.mem_cons, not_or]; exact ⟨fun e => hb e.symm, h⟩)
      · exact .inr ⟨b :: x, r, rfl, by rw [List.mem_cons, not_or]; exact ⟨fun e => hb e.symm, h⟩⟩
theorem split_eq (c : UInt8) : ∀ (n : Nat) (s : Tx), s.length ≤ n → Lib.split s [c] = split c s
  | 0, s, h => by
    obtain rfl : s = [] := List.eq_nil_of_length_eq_zero (by omega)
    rfl
  | n + 1, s, h => by
    unfold Lib.split
    rcases byte_ways c s with h1 | ⟨x, r, rfl, h1⟩
    · rw [Lib.count_miss (idx_none h1), split_none h1]
      rfl
    · have hi := idx_some h1 r
      have hd : (x ++ c :: r).drop (x.length + 1) = r := by simp
      rw [Lib.count_hit (by simp) hi, split_cut h1, show ([c] : Tx).length = 1 from rfl, hd, Nat.add_comm 1]
      unfold Lib.splitK
      rw [if_neg (by rw [hi, beq_iff_eq]; omega), hi, show ([c] : Tx).length = 1 from rfl, Int.toNat_natCast, hd]
      have ih := split_eq c n r (by simp at h; omega)
      unfold Lib.split at ih
      rw [ih, Nat.add_zero, List.take_left]
theorem split_len (c : UInt8) (s : Tx) : (split c s).length ≤ s.length + 1 := by
  induction s with
  | nil => simp [split]
  | cons b s ih =>
    unfold split
    split
    · simp; omega
    · split
      · simp
      · rename_i h
        rw [h] at ih
        simp at ih ⊢
        omega
theorem split_small (c : UInt8) (s : Tx) : ∀ x ∈ split c s, x.length ≤ s.length := by
  induction s with
  | nil => simp [split]
  | cons b s ih =>
    intro x hx
    rw [split_cons] at hx
    split at hx
    · rcases List.mem_cons.1 hx with rfl | hx
      · simp
      · have := ih x hx
        simp
        omega
    · cases hs : split c s with
      | nil => exact absurd hs (split_ne c s)
      | cons y r =>
        rw [hs] at hx ih
        simp only at hx
        rcases List.mem_cons.1 hx with rfl | hx
        · have := ih y (List.mem_cons_self ..)
          simp
          omega
        · have := ih x (List.mem_cons_of_mem _ hx)
          simp
          omega
theorem cutAt_none {c : UInt8} : ∀ {s : Tx}, c ∉ s → (cutAt c s).2 = none
  | [], _ => rfl
  | b :: s, h => by
    rw [List.mem_cons, not_or] at h
    unfold cutAt
    rw [if_neg (fun e => h.1 e.symm)]
    exact cutAt_none h.2
/-- strings.Cut at a byte. -/
theorem cut_eq (c : UInt8) (s : Tx) : Lib.cut s [c] = match cutAt c s with
    | (_, none) => (s, [], false)
    | (a, some k) => (a, k, true) := by
  unfold Lib.cut
  rcases byte_ways c s with h1 | ⟨x, r, rfl, h1⟩
  · have hn := cutAt_none h1
    rw [idx_none h1, if_neg (by decide)]
    cases hc : cutAt c s with
    | mk a o =>
      rw [hc] at hn
      simp only at hn
      subst hn
      rfl
  · rw [idx_some h1, if_pos (by omega), cut_at h1]
    simp
theorem cutAt_len {c : UInt8} {s a k : Tx} (h : cutAt c s = (a, some k)) : a.length + k.length < s.length := by
  rcases byte_ways c s with h1 | ⟨x, r, rfl, h1⟩
  · exfalso
    have hn := cutAt_none h1
    rw [h] at hn
    cases hn
  · rw [cut_at h1] at h
    injection h with h2 h3
    injection h3 with h3
    subst h2; subst h3
    simp

theorem strip_eq (s : Tx) : Lib.trimPrefix s [64] = strip s := by
  unfold Lib.trimPrefix Lib.hasPrefix strip
  cases s with
  | nil => rfl
  | cons b s =>
    by_cases hb : b = 64
    · subst hb
      rfl
    · rw [if_neg (by simp [List.isPrefixOf]; exact fun e => hb e.symm)]
      split
      · rename_i h
        injection h with h _
        exact absurd h hb
      · rfl
theorem root_eq (s : Tx) : (Lib.hasPrefix s [47] = true ∧ ∃ r, s = 47 :: r ∧ Lib.trimPrefix s [47] = r) ∨ (Lib.hasPrefix s [47] = false ∧ s.head? ≠ some 47) := by
  cases s with
  | nil => exact .inr ⟨rfl, by simp⟩
  | cons b s =>
    by_cases hb : b = 47
    · subst hb
      exact .inl ⟨rfl, s, rfl, rfl⟩
    · refine .inr ⟨?_, by simp [hb]⟩
      unfold Lib.hasPrefix
      simp [List.isPrefixOf]
      exact fun e => hb e.symm
theorem shut_eq (s : Tx) : (Lib.hasSuffix s [125] = true ∧ s.getLast? = some 125 ∧ Lib.trimSuffix s [125] = s.dropLast) ∨ (Lib.hasSuffix s [125] = false ∧ s.getLast? ≠ some 125) := by
  have hsuf : Lib.hasSuffix s [125] = decide (s.getLast? = some 125) := by
    unfold Lib.hasSuffix
    rw [Bool.eq_iff_iff, decide_eq_true_eq, List.isSuffixOf_iff_suffix]
    constructor
    · rintro ⟨t, rfl⟩
      rw [List.getLast?_concat]
    · intro h
      obtain ⟨t, rfl⟩ := List.getLast?_eq_some_iff.1 h
      exact ⟨t, rfl⟩
  by_cases h : s.getLast? = some 125
  · rw [decide_eq_true h] at hsuf
    refine .inl ⟨hsuf, h, ?_⟩
    unfold Lib.trimSuffix
    rw [if_pos hsuf, List.dropLast_eq_take]
    rfl
  · rw [decide_eq_false h] at hsuf
    exact .inr ⟨hsuf, h⟩

theorem cs_blank (b : UInt8) : ([9, 10, 13, 32] : Tx).contains b = blank b := by
  unfold blank
  rw [Bool.eq_iff_iff]
  simp
  rw [or_assoc, or_assoc]
section
variable (p : UInt8 → Bool)
theorem dw_all : ∀ {l : Tx}, (∀ b ∈ l, p b = true) → l.dropWhile p = []
  | [], _ => rfl
  | b :: l, h => by
    rw [List.dropWhile_cons_of_pos (h b (List.mem_cons_self ..))]
    exact dw_all fun c hc => h c (List.mem_cons_of_mem _ hc)
theorem dw_first : ∀ {l : Tx}, (¬ ∀ b ∈ l, p b = true) → ∃ a x m, l = a ++ x :: m ∧ (∀ b ∈ a, p b = true) ∧ p x = false
  | [], h => absurd (fun b hb => by cases hb) h
  | b :: l, h => by
    cases hb : p b with
    | false => exact ⟨[], b, l, rfl, fun x hx => (by cases hx), hb⟩
    | true =>
      obtain ⟨a, x, m, rfl, h1, h2⟩ := dw_first (l := l) fun hl => h fun c hc => by
        rcases List.mem_cons.1 hc with rfl | hc
        · exact hb
        · exact hl c hc
      exact ⟨b :: a, x, m, rfl, fun c hc => by
        rcases List.mem_cons.1 hc with rfl | hc
        · exact hb
        · exact h1 c hc, h2⟩
theorem dw_cut {a : Tx} (ha : ∀ b ∈ a, p b = true) (z : Tx) : (a ++ z).dropWhile p = z.dropWhile p := by
  induction a with
  | nil => rfl
  | cons b a ih =>
    rw [List.cons_append, List.dropWhile_cons_of_pos (ha b (List.mem_cons_self ..))]
    exact ih fun c hc => ha c (List.mem_cons_of_mem _ hc)
theorem dw_stop {x : UInt8} (hx : p x = false) (t : Tx) : (x :: t).dropWhile p = x :: t := List.dropWhile_cons_of_neg (by rw [hx]; decide)
theorem dw_mid {x : UInt8} (hx : p x = false) (t : Tx) : ∀ y : Tx, ∃ y', (y ++ x :: t).dropWhile p = y' ++ x :: t
  | [] => ⟨[], dw_stop p hx t⟩
  | b :: y => by
    cases hb : p b with
    | true =>
      rw [List.cons_append, List.dropWhile_cons_of_pos hb]
      exact dw_mid hx t y
    | false => exact ⟨b :: y, by rw [List.cons_append, dw_stop p hb]⟩
theorem dw_keep {x : UInt8} (hx : p x = false) (t : Tx) : ∀ y : Tx, (y ++ x :: t).dropWhile p = (y ++ [x]).dropWhile p ++ t
  | [] => by rw [List.nil_append, List.nil_append, dw_stop p hx, dw_stop p hx]; rfl
  | b :: y => by
    cases hb : p b with
    | true =>
      rw [List.cons_append, List.dropWhile_cons_of_pos hb, List.cons_append, List.dropWhile_cons_of_pos hb]
      exact dw_keep hx t y
    | false => rw [List.cons_append, dw_stop p hb, List.cons_append, dw_stop p hb]; simp
theorem ends_swap (l : Tx) : (l.reverse.dropWhile p).reverse.dropWhile p = ((l.dropWhile p).reverse.dropWhile p).reverse := by
  by_cases h : ∀ b ∈ l, p b = true
  · rw [dw_all p h, dw_all p (l := l.reverse) fun b hb => h b (List.mem_reverse.1 hb)]
    rfl
  · obtain ⟨a, x, m, rfl, ha, hx⟩ := dw_first p h
    have e1 : (a ++ x :: m).reverse = m.reverse ++ x :: a.reverse := by simp
    rw [e1, dw_keep p hx, dw_cut p ha, dw_stop p hx, List.reverse_append, List.reverse_reverse, dw_cut p ha, List.reverse_cons]
    obtain ⟨y', hy⟩ := dw_mid p hx [] m.reverse
    rw [hy]
    have e2 : (y' ++ [x]).reverse = x :: y'.reverse := by simp
    rw [e2, dw_stop p hx]
end
theorem trim_eq (s : Tx) : Lib.trimS s [9, 10, 13, 32] = trim s := by
  unfold Lib.trimS Lib.trimLeftS Lib.trimRightS trim trimL
  have e : (([9, 10, 13, 32] : Tx).contains ·) = blank := funext cs_blank
  rw [e]
  exact ends_swap blank s
theorem trim_small (s : Tx) : (trim s).length ≤ s.length := by
  unfold trim trimL
  rw [List.length_reverse]
  refine Nat.le_trans (List.dropWhile_suffix _).length_le ?_
  rw [List.length_reverse]
  exact (List.dropWhile_suffix _).length_le
theorem join_eq (sep : Tx) : ∀ l : List Tx, Lib.join l sep = join sep l
  | [] => rfl
  | [x] => Lib.join_one x sep
  | x :: y :: r => by
    rw [Lib.join_cons]
    show _ = x ++ sep ++ join sep (y :: r)
    rw [← join_eq sep (y :: r), Lib.join_cons]
    simp [Lib.joinTail]

/-! ### Small laws for the walks -/
theorem once_snoc (a : List Tx) (x : Tx) : onceB (a ++ [x]) = (onceB a && !(a.contains x)) := by
  induction a with
  | nil => simp [onceB]
  | cons y a ih =>
    rw [List.cons_append, onceB, onceB, ih]
    have hc : (a ++ [x]).contains y = (a.contains y || x == y) := by
      rw [Bool.eq_iff_iff]
      simp only [List.contains_iff_mem, List.mem_append, List.mem_singleton, Bool.or_eq_true, beq_iff_eq]
      exact or_congr Iff.rfl ⟨fun h => h.symm, fun h => h.symm⟩
    rw [hc, List.contains_cons]
    by_cases hxy : x = y
    · subst hxy
      simp
    · have h1 : (x == y) = false := beq_eq_false_iff_ne.2 hxy
      rw [h1]
      simp [Bool.and_assoc]
theorem once_take {l : List Tx} {k : Nat} {x : Tx} (h : l[k]? = some x) : onceB (l.take (k + 1)) = (onceB (l.take k) && !((l.take k).contains x)) := by
  rw [take_snoc' h, once_snoc]
where
  take_snoc' {l : List Tx} {k : Nat} {x : Tx} (h : l[k]? = some x) : l.take (k + 1) = l.take k ++ [x] := by
    rw [List.take_add_one, h]; rfl
theorem once_mono {l : List Tx} {k : Nat} (h : onceB l = true) : onceB (l.take k) = true := by
  induction l generalizing k with
  | nil => simp [onceB]
  | cons x l ih =>
    cases k with
    | zero => rfl
    | succ k =>
      rw [onceB, Bool.and_eq_true] at h
      rw [List.take_succ_cons, onceB, Bool.and_eq_true]
      refine ⟨?_, ih h.2⟩
      have h1 := h.1
      rw [Bool.not_eq_true', ← Bool.not_eq_true, List.contains_iff_mem] at h1 ⊢
      exact fun hm => h1 (List.mem_of_mem_take hm)
/-- A text twice: it is not once. -/
theorem once_not {l : List Tx} {k : Nat} {x : Tx} (h : l[k]? = some x) (hc : (l.take k).contains x = true) : onceB l = false := by
  cases ho : onceB l with
  | false => rfl
  | true =>
    have := once_mono (k := k + 1) ho
    rw [once_take h, hc] at this
    simp at this
theorem strip_set (p : Tx → Bool) {l : List Tx} (hl : l ≠ []) : (l.set (l.length - 1) (strip (l.getLast?.getD []))).all p = (l.dropLast.all p && p (strip (l.getLast?.getD []))) := by
  obtain ⟨a, x, rfl⟩ : ∃ a x, l = a ++ [x] := ⟨l.dropLast, l.getLast hl, (List.dropLast_concat_getLast hl).symm⟩
  rw [List.getLast?_concat, List.dropLast_concat, Option.getD_some]
  have : (a ++ [x]).length - 1 = a.length := by simp
  rw [this, List.set_append_right _ _ (Nat.le_refl _), Nat.sub_self]
  simp
theorem key_dot {nm : Tx → Bool} : keyB nm [46] = true := by
  unfold keyB
  simp
theorem key_not {nm : Tx → Bool} {s : Tx} (h : s ≠ [46]) : keyB nm s = ((split 47 s).set ((split 47 s).length - 1) (strip ((split 47 s).getLast?.getD []))).all nm := by
  unfold keyB
  rw [decide_eq_false h, Bool.false_or, strip_set nm (split_ne 47 s)]
end Go.Proofs.YtjofkodncplhaaaGreatDoor.Ky
end

section
namespace Go.Proofs.YtjofkodncplhaaaGreatDoor.Ky

/-- A text's lines, each with its end. -/
def pcs : Tx → List Tx
  | [] => []
  | b :: s => if b = 10 then [10] :: pcs s else match pcs s with
    | [] => [[b]]
    | x :: r => (b :: x) :: r
theorem pcs_cons (b : UInt8) (s : Tx) : pcs (b :: s) = if b = 10 then [10] :: pcs s else match pcs s with
    | [] => [[b]]
    | x :: r => (b :: x) :: r := rfl
theorem pcs_cut : ∀ {x : Tx}, (10 : UInt8) ∉ x → ∀ r, pcs (x ++ 10 :: r) = (x ++ [10]) :: pcs r
  | [], _, r => by
    show pcs (10 :: r) = _
    rw [pcs_cons, if_pos rfl]
    rfl
  | b :: x, h, r => by
    rw [List.mem_cons, not_or] at h
    rw [List.cons_append, pcs_cons, if_neg (fun e => h.1 e.symm), pcs_cut h.2 r]
    rfl
theorem pcs_last : ∀ {s : Tx}, (10 : UInt8) ∉ s → s ≠ [] → pcs s = [s]
  | [], _, h => absurd rfl h
  | [b], h, _ => by
    rw [List.mem_singleton] at h
    rw [pcs_cons, if_neg (fun e => h e.symm)]
    rfl
  | b :: c :: s, h, _ => by
    rw [List.mem_cons, not_or] at h
    rw [pcs_cons, if_neg (fun e => h.1 e.symm), pcs_last h.2 (by simp)]
theorem pcs_small : ∀ (n : Nat) (s : Tx), s.length ≤ n → (pcs s).length ≤ s.length ∧ ∀ x ∈ pcs s, x.length ≤ s.length
  | 0, s, h => by
    obtain rfl : s = [] := List.eq_nil_of_length_eq_zero (by omega)
    exact ⟨Nat.le_refl _, fun x hx => by cases hx⟩
  | n + 1, s, h => by
    rcases byte_ways 10 s with h1 | ⟨x, r, rfl, h1⟩
    · by_cases h0 : s = []
      · subst h0
        exact ⟨Nat.le_refl _, fun x hx => by cases hx⟩
      · rw [pcs_last h1 h0]
        refine ⟨?_, fun x hx => by rw [List.mem_singleton.1 hx]; exact Nat.le_refl _⟩
        cases s with
        | nil => exact absurd rfl h0
        | cons b s => simp
    · obtain ⟨g1, g2⟩ := pcs_small n r (by simp at h; omega)
      rw [pcs_cut h1]
      refine ⟨by simp; omega, fun y hy => ?_⟩
      rcases List.mem_cons.1 hy with rfl | hy
      · simp
      · have := g2 y hy
        simp
        omega

theorem trim_end {x c : Tx} (h : ∀ b ∈ c, blank b = true) : trim (x ++ c) = trim x := by
  have e : ∀ s : Tx, trim s = (s.reverse.dropWhile blank).reverse.dropWhile blank := fun s => (ends_swap blank s).symm
  rw [e, e, List.reverse_append, dw_cut blank fun b hb => h b (List.mem_reverse.1 hb)]

section
variable (nm : Tx → Bool)
/-- A line is passed over. -/
def skips (s : Tx) : Bool := decide (trim s = [] ∨ (trim s).head? = some 35)
/-- What is read of lines, if all goes well. -/
def run : List Tx → List Rl → Option (List Rl)
  | [], out => some out
  | s :: l, out =>
    if skips s = true then run l out
    else match lineR nm (trim s) with
      | none => none
      | some x => if 64 ≤ out.length then none else if placedB out x = true then run l (out ++ [x]) else none
/-- What is told of a line that can't be read. -/
def bad (s : Tx) (out : List Rl) : Int :=
  match lineR nm (trim s) with
  | none => 20
  | some _ => if 64 ≤ out.length then 20 else 21

theorem run_append : ∀ {a b : List Tx} {out : List Rl}, run nm (a ++ b) out = (run nm a out).bind (run nm b)
  | [], _, _ => rfl
  | s :: a, b, out => by
    rw [List.cons_append, run, run]
    split
    · exact run_append
    · split
      · rfl
      · split
        · rfl
        · split
          · exact run_append
          · rfl
theorem parse_run : ∀ {a b : List Tx} {n : Nat} {out o : List Rl}, run nm a out = some o → parseL nm (a ++ b) n out = parseL nm b (n + a.length) o
  | [], b, n, out, o, h => by
    injection h with h
    subst h
    rfl
  | s :: a, b, n, out, o, h => by
    rw [run] at h
    rw [List.cons_append, parseL]
    have hl : n + (s :: a).length = n + 1 + a.length := by simp; omega
    rw [hl]
    split at h
    · rename_i h1
      rw [if_pos (of_decide_eq_true h1)]
      exact parse_run h
    · rename_i h1
      rw [if_neg (fun e => h1 (decide_eq_true e))]
      cases hx : lineR nm (trim s) with
      | none => rw [hx] at h; cases h
      | some x =>
        rw [hx] at h
        simp only at h ⊢
        split at h
        · cases h
        · rename_i h64
          rw [if_neg h64]
          split at h
          · rename_i hp
            rw [if_pos hp]
            exact parse_run h
          · cases h
/-- A line that can't be read ends it. -/
theorem parse_bad {a b : List Tx} {s : Tx} {out o : List Rl} (h : run nm a out = some o) (hs : run nm [s] o = none) : parseL nm (a ++ s :: b) 0 out = ([], bad nm s o, a.length + 1) := by
  rw [parse_run nm h, parseL]
  rw [run] at hs
  unfold bad
  split at hs
  · cases hs
  · rename_i h1
    rw [if_neg (fun e => h1 (decide_eq_true e)), Nat.zero_add]
    cases hx : lineR nm (trim s) with
    | none => rfl
    | some x =>
      rw [hx] at hs
      simp only at hs ⊢
      split at hs
      · rename_i h64
        rw [if_pos h64, if_pos h64]
      · rename_i h64
        rw [if_neg h64, if_neg h64]
        split at hs
        · cases hs
        · rename_i hp
          rw [if_neg hp]
theorem parse_end {a : List Tx} {o : List Rl} (h : run nm a [] = some o) : parseL nm a 0 [] = if o = [] then ([], 20, 0) else (o, 0, 0) := by
  have := parse_run nm (b := []) (n := 0) h
  rw [List.append_nil] at this
  rw [this, parseL]

theorem parse_same {a b : Tx} {l l' : List Tx} (h : trim a = trim b) (hl : ∀ n out, parseL nm l n out = parseL nm l' n out) (n : Nat) (out : List Rl) : parseL nm (a :: l) n out = parseL nm (b :: l') n out := by
  rw [parseL, parseL, h]
  simp only [hl]
theorem parse_none (n : Nat) (out : List Rl) : parseL nm [[]] n out = parseL nm [] n out := by
  have e : parseL nm [[]] n out = if trim [] = [] ∨ (trim []).head? = some 35 then parseL nm [] (n + 1) out else match lineR nm (trim []) with
      | none => ([], 20, n + 1)
      | some x => if 64 ≤ out.length then ([], 20, n + 1) else if placedB out x = true then parseL nm [] (n + 1) (out ++ [x]) else ([], 21, n + 1) := rfl
  rw [e, if_pos (show trim [] = [] ∨ (trim []).head? = some 35 from Or.inl rfl)]
  rfl
/-- The pieces are read as the lines. -/
theorem parse_pcs : ∀ (k : Nat) (s : Tx), s.length ≤ k → ∀ n out, parseL nm (pcs s) n out = parseL nm (split 10 s) n out
  | 0, s, h, n, out => by
    obtain rfl : s = [] := List.eq_nil_of_length_eq_zero (by omega)
    exact (parse_none nm n out).symm
  | k + 1, s, h, n, out => by
    rcases byte_ways 10 s with h1 | ⟨x, r, rfl, h1⟩
    · by_cases h0 : s = []
      · subst h0
        exact (parse_none nm n out).symm
      · rw [pcs_last h1 h0, split_none h1]
    · rw [pcs_cut h1, split_cut h1]
      exact parse_same nm (trim_end fun b hb => by rw [List.mem_singleton.1 hb]; decide) (fun n out => parse_pcs k r (by simp at h; omega) n out) n out

/-! ### How long what is read is -/
def Smr (M : Nat) (r : Rl) : Prop := r.1.length ≤ M + 1 ∧ r.2.length ≤ M + 1 ∧ (∀ t ∈ r.1, t.length ≤ M) ∧ ∀ t ∈ r.2, t.length ≤ M
theorem line_small {s : Tx} {r : Rl} (h : lineR nm s = some r) : Smr s.length r := by
  unfold lineR at h
  cases hc : cutAt 123 s with
  | mk a o =>
    rw [hc] at h
    cases o with
    | none => cases h
    | some k =>
      have hl := cutAt_len hc
      simp only at h
      split at h
      · split at h
        · rename_i p hp
          have h1 := trim_small a
          rw [hp] at h1
          simp at h1
          have h2 : (trim k.dropLast).length ≤ s.length := by
            have := trim_small k.dropLast
            rw [List.length_dropLast] at this
            omega
          have hK : (if trim k.dropLast = [] then [] else (split 44 (trim k.dropLast)).map trim).length ≤ s.length + 1 ∧ ∀ t ∈ (if trim k.dropLast = [] then [] else (split 44 (trim k.dropLast)).map trim), t.length ≤ s.length := by
            split
            · exact ⟨by simp, fun t ht => by cases ht⟩
            · refine ⟨?_, fun t ht => ?_⟩
              · rw [List.length_map]
                have := split_len 44 (trim k.dropLast)
                omega
              · obtain ⟨u, hu, rfl⟩ := List.mem_map.1 ht
                have := split_small 44 _ u hu
                have := trim_small u
                omega
          generalize (if trim k.dropLast = [] then [] else (split 44 (trim k.dropLast)).map trim) = K at *
          unfold ruleO at h
          split at h
          · injection h with h
            subst h
            exact ⟨by have := split_len 47 p; simp only; omega, hK.1, fun t ht => by have := split_small 47 p t ht; omega, hK.2⟩
          · cases h
        · cases h
      · cases h
theorem run_small {M : Nat} : ∀ {a : List Tx} {out o : List Rl}, run nm a out = some o → (∀ x ∈ a, x.length ≤ M) → (∀ r ∈ out, Smr M r) → ∀ r ∈ o, Smr M r
  | [], out, o, h, _, ho => by
    injection h with h
    subst h
    exact ho
  | s :: a, out, o, h, ha, ho => by
    rw [run] at h
    split at h
    · exact run_small h (fun x hx => ha x (List.mem_cons_of_mem _ hx)) ho
    · cases hx : lineR nm (trim s) with
      | none => rw [hx] at h; cases h
      | some x =>
        rw [hx] at h
        simp only at h
        split at h
        · cases h
        · split at h
          · refine run_small h (fun x hx => ha x (List.mem_cons_of_mem _ hx)) fun r hr => ?_
            rcases List.mem_append.1 hr with hr | hr
            · exact ho r hr
            · rw [List.mem_singleton.1 hr]
              have h1 := line_small nm hx
              have h2 := trim_small s
              have h3 := ha s (List.mem_cons_self ..)
              exact ⟨by have := h1.1; omega, by have := h1.2.1; omega, fun t ht => by have := h1.2.2.1 t ht; omega, fun t ht => by have := h1.2.2.2 t ht; omega⟩
          · cases h
theorem run_most : ∀ {a : List Tx} {out o : List Rl}, run nm a out = some o → out.length ≤ 64 → o.length ≤ 64
  | [], out, o, h, ho => by
    injection h with h
    subst h
    exact ho
  | s :: a, out, o, h, ho => by
    rw [run] at h
    split at h
    · exact run_most h ho
    · cases hx : lineR nm (trim s) with
      | none => rw [hx] at h; cases h
      | some x =>
        rw [hx] at h
        simp only at h
        split at h
        · cases h
        · split at h
          · exact run_most h (by simp; omega)
          · cases h
end

/-! ### What rules weigh -/
def lens (l : List Tx) : Nat := (l.map List.length).sum
def wt (r : Rl) : Nat := 1 + r.1.length + r.2.length + lens r.1 + lens r.2
def wts (l : List Rl) : Nat := (l.map wt).sum
theorem lens_le {l : List Tx} {t : Tx} (h : t ∈ l) : t.length ≤ lens l := by
  induction l with
  | nil => cases h
  | cons x l ih =>
    unfold lens at *
    rw [List.map_cons, List.sum_cons]
    rcases List.mem_cons.1 h with rfl | h
    · omega
    · have := ih h
      omega
theorem wts_le {l : List Rl} {r : Rl} (h : r ∈ l) : wt r ≤ wts l := by
  induction l with
  | nil => cases h
  | cons x l ih =>
    unfold wts at *
    rw [List.map_cons, List.sum_cons]
    rcases List.mem_cons.1 h with rfl | h
    · omega
    · have := ih h
      omega
theorem wts_len (l : List Rl) : l.length ≤ wts l := by
  induction l with
  | nil => simp
  | cons x l ih =>
    unfold wts at *
    rw [List.map_cons, List.sum_cons, List.length_cons]
    have : 1 ≤ wt x := by unfold wt; omega
    omega
theorem lens_append (a b : List Tx) : lens (a ++ b) = lens a + lens b := by simp [lens]
theorem wts_append (a b : List Rl) : wts (a ++ b) = wts a + wts b := by simp [wts]
theorem small_of {l : List Rl} {M : Nat} (h : wts l ≤ M) : ∀ r ∈ l, Smr M r := fun r hr => by
  have h1 := wts_le hr
  unfold wt at h1
  exact ⟨by omega, by omega, fun t ht => by have := lens_le ht; omega, fun t ht => by have := lens_le ht; omega⟩
theorem join_len (sep : Tx) : ∀ l : List Tx, (join sep l).length ≤ lens l + l.length * sep.length
  | [] => by simp [join]
  | [x] => by simp [join, lens]
  | x :: y :: r => by
    have h := join_len sep (y :: r)
    show (x ++ sep ++ join sep (y :: r)).length ≤ _
    unfold lens at *
    rw [List.length_append, List.length_append, List.map_cons, List.sum_cons, List.length_cons, Nat.succ_mul]
    omega
theorem textL_len (r : Rl) : (textL r).length + 1 ≤ 5 * wt r := by
  have h1 := join_len [47] r.1
  have h2 := join_len [44, 32] r.2
  unfold textL wt
  simp at h1 h2 ⊢
  omega
theorem textR_len (l : List Rl) : (textR l).length ≤ 5 * wts l := by
  induction l with
  | nil => simp [textR]
  | cons r l ih =>
    have h := textL_len r
    have e : textR (r :: l) = textL r ++ [10] ++ textR l := by simp [textR]
    rw [e, List.length_append, List.length_append]
    unfold wts at *
    rw [List.map_cons, List.sum_cons]
    simp only [List.length_singleton]
    omega
end Go.Proofs.YtjofkodncplhaaaGreatDoor.Ky
end
